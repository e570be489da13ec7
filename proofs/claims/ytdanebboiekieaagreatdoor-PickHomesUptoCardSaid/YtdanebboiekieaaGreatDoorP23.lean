/- The walks, part 23. -/
import Derived.Test.YtdanebboiekieaaGreatDoorP22
set_option linter.unusedSimpArgs false
set_option linter.unusedVariables false
set_option maxRecDepth 100000
set_option maxHeartbeats 16000000
namespace Go.Proofs.YtdanebboiekieaaGreatDoor
open Go.RowKit
def InsL (S : List Int) (s : Nat) (D : List Int) (a k : Nat) (T : List Int) : Prop := ∃ P D', T = P ++ D' ∧ P.length = a ∧ D' = D.drop a ∧ P ++ blks S s k D' = blks S s (D.length + 1) D
theorem qgr {S : List Int} {s : Nat} {D : List Int} : InsL S s D 0 (D.length + 1) D := ⟨[], D, rfl, rfl, rfl, rfl⟩
theorem qiw {S : List Int} {s : Nat} {D T : List Int} {a k : Nat} (hD : D.Pairwise (· < ·)) (h : InsL S s D a (k + 1) T) (hl : a + s ≤ D.length) :
 ∃ P A Q, T = P ++ (A ++ Q) ∧ P.length = a ∧ A.length = s ∧ A.Pairwise (· < ·) ∧ (∀ v ∈ A, v ∈ D) ∧ InsL S s D (a + s) k (P ++ (sortW (wtS S) A ++ Q)) := by
 obtain ⟨P, D', rfl, h1, h2, h3⟩ := h;have hdl : D'.length = D.length - a := by rw [h2, List.length_drop]
 have hs' : D'.Pairwise (· < ·) := by rw [h2]; exact hD.drop
 refine ⟨P, D'.take s, D'.drop s, by rw [List.take_append_drop], h1, by rw [List.length_take]; omega, hs'.take, fun v hv => ?_, ?_⟩
 ·have := List.mem_of_mem_take hv;rw [h2] at this;exact List.mem_of_mem_drop this
 ·refine ⟨P ++ sortW (wtS S) (D'.take s), D'.drop s, by rw [List.append_assoc], ?_, by rw [h2, List.drop_drop], ?_⟩
  ·rw [List.length_append, (qs _ _).length_eq, List.length_take];omega
  ·rw [List.append_assoc];exact h3
theorem qiv {S : List Int} {s : Nat} {D T : List Int} {a k : Nat} (hD : D.Pairwise (· < ·)) (h : InsL S s D a (k + 1) T) (ha : a ≤ D.length) (hl : D.length ≤ a + s) :
 ∃ P A, T = P ++ (A ++ []) ∧ P.length = a ∧ a + A.length = D.length ∧ A.Pairwise (· < ·) ∧ (∀ v ∈ A, v ∈ D) ∧ P ++ (sortW (wtS S) A ++ []) = blks S s (D.length + 1) D := by
 obtain ⟨P, D', rfl, h1, h2, h3⟩ := h;have hdl : D'.length = D.length - a := by rw [h2, List.length_drop]
 have hs' : D'.Pairwise (· < ·) := by rw [h2]; exact hD.drop
 refine ⟨P, D', by rw [List.append_nil], h1, by omega, hs', fun v hv => ?_, ?_⟩
 ·rw [h2] at hv;exact List.mem_of_mem_drop hv
 ·rw [<- h3, q63 S s k (by omega), List.append_nil]
def MrgL (S : List Int) (s : Nat) (D : List Int) (a k : Nat) (T : List Int) : Prop := ∃ P D', T = P ++ blks S s (2 * k) D' ∧ P.length = a ∧ D' = D.drop a ∧ P ++ blks S (2 * s) k D' = blks S (2 * s) (D.length + 1) D
theorem qj7 {S : List Int} {s : Nat} (hs : 0 < s) {D : List Int} : MrgL S s D 0 (D.length + 1) (blks S s (D.length + 1) D) := by
 refine ⟨[], D, ?_, rfl, rfl, rfl⟩;rw [List.nil_append];exact qbm S s hs _ _ D (Nat.le_trans (by omega) (Nat.le_mul_of_pos_right _ hs)) (Nat.le_trans (by omega) (Nat.le_mul_of_pos_right _ hs))
theorem qek {α : Type} (D : List α) (s t : Nat) : D.take (s + t) = D.take s ++ (D.drop s).take t := by
 rw [List.take_add]
theorem qlt {S : List Int} {s : Nat} {D T : List Int} {a k : Nat} (hD : D.Pairwise (· < ·)) (h : MrgL S s D a (k + 1) T) (hl : a + 2 * s ≤ D.length) :
 ∃ P A B Q, T = P ++ (sortW (wtS S) A ++ (sortW (wtS S) B ++ Q)) ∧ P.length = a ∧ A.length = s ∧ B.length = s ∧ LessL A B ∧ (∀ v ∈ A ++ B, v ∈ D) ∧ MrgL S s D (a + 2 * s) k (P ++ (sortW (wtS S) (A ++ B) ++ Q)) := by
 obtain ⟨P, D', rfl, h1, h2, h3⟩ := h;have hdl : D'.length = D.length - a := by rw [h2, List.length_drop]
 have hs' : D'.Pairwise (· < ·) := by rw [h2]; exact hD.drop
 refine ⟨P, D'.take s, (D'.drop s).take s, blks S s (2 * k) (D'.drop (2 * s)), ?_, h1, by rw [List.length_take]; omega, by rw [List.length_take, List.length_drop]; omega, ?_, ?_, ?_⟩
 ·rw [show 2 * (k + 1) = 2 * k + 1 + 1 by omega, blks, blks, List.drop_drop, show s + s = 2 * s by omega]
 ·have := qfe hs' 0 s s (Nat.zero_le _);simpa using this
 ·intro v hv
  have : v ∈ D' := by
   rcases List.mem_append.1 hv with h | h
   ·exact List.mem_of_mem_take h
   ·exact List.mem_of_mem_drop (List.mem_of_mem_take h)
  rw [h2] at this;exact List.mem_of_mem_drop this
 ·refine ⟨P ++ sortW (wtS S) (D'.take (2 * s)), D'.drop (2 * s), ?_, ?_, by rw [h2, List.drop_drop], ?_⟩
  ·rw [show 2 * s = s + s by omega, qek, List.append_assoc]
  ·rw [List.length_append, (qs _ _).length_eq, List.length_take];omega
  ·rw [List.append_assoc];exact h3
theorem qlr {S : List Int} {s : Nat} {D T : List Int} {a k : Nat} (hD : D.Pairwise (· < ·)) (h : MrgL S s D a (k + 1) T) (hl : D.length < a + 2 * s) (hm : a + s < D.length) :
 ∃ P A B, T = P ++ (sortW (wtS S) A ++ (sortW (wtS S) B ++ [])) ∧ P.length = a ∧ A.length = s ∧ a + s + B.length = D.length ∧ LessL A B ∧ (∀ v ∈ A ++ B, v ∈ D) ∧ P ++ (sortW (wtS S) (A ++ B) ++ []) = blks S (2 * s) (D.length + 1) D := by
 obtain ⟨P, D', rfl, h1, h2, h3⟩ := h;have hdl : D'.length = D.length - a := by rw [h2, List.length_drop]
 have hs' : D'.Pairwise (· < ·) := by rw [h2]; exact hD.drop
 have e2 : (D'.drop s).take s = D'.drop s := List.take_of_length_le (by rw [List.length_drop]; omega);have e3 : D'.drop (s + s) = [] := List.drop_eq_nil_of_le (by omega);refine ⟨P, D'.take s, D'.drop s, ?_, h1, by rw [List.length_take]; omega, by rw [List.length_drop]; omega, ?_, ?_, ?_⟩
 ·rw [show 2 * (k + 1) = 2 * k + 1 + 1 by omega, blks, blks, List.drop_drop, e2, e3, q54]
 ·have := qfe hs' 0 s s (Nat.zero_le _);rw [e2] at this;simpa using this
 ·intro v hv;rw [List.take_append_drop, h2] at hv;exact List.mem_of_mem_drop hv
 ·rw [List.take_append_drop, <- h3, q63 S (2 * s) k (by omega), List.append_nil]
theorem qls {S : List Int} {s : Nat} {D T : List Int} {a k : Nat} (h : MrgL S s D a (k + 1) T) (hm : D.length ≤ a + s) : T = blks S (2 * s) (D.length + 1) D := by
 obtain ⟨P, D', rfl, h1, h2, h3⟩ := h;have hdl : D'.length = D.length - a := by rw [h2, List.length_drop]
 rw [<- h3, show 2 * (k + 1) = 2 * k + 1 + 1 by omega, q63 S s (2 * k + 1) (by omega), q63 S (2 * s) k (by omega)]
theorem qf9 {S : List Int} {s : Nat} {D T : List Int} {a k : Nat} (h : InsL S s D a k T) (ha : a ≤ D.length) : T.length = D.length := by
 obtain ⟨P, D', rfl, h1, h2, h3⟩ := h;rw [List.length_append, h2, List.length_drop];omega
theorem qfi {S : List Int} {s : Nat} {D T : List Int} {a k : Nat} (h : MrgL S s D a k T) (ha : a ≤ D.length) : T.length = D.length := by
 obtain ⟨P, D', rfl, h1, h2, h3⟩ := h;rw [List.length_append, qeu, h2, List.length_drop];omega
theorem qcy (S : List Int) (g nn cp bx gs n c : Nat) (D : List Int) (hn : D.length = n) (hn1 : n ≤ 1000) (hs : D.Pairwise (· < ·)) (hD : ∀ x ∈ D, 0 ≤ x ∧ x < (nn : Int)) (w : World) (hC : CmpN S g nn cp bx gs w) (hI : IntAt gs D w) (R : Ending -> World -> Prop)
 (hR : ∀ w', IntI gs (sortW (wtS S) D) w w' -> R (.returned (.tuple #[])) w') :
 Calls Tryz.prog 79 #[.slice (some ⟨gs, 0, none⟩) n c, .int .i64 (n : Int), .func (.func 44) #[] #[.pointer (some ⟨bx, 0, none⟩)]] w R := by
 obtain ⟨HR, HC, HD, Hs, Hn⟩ := lh5 hR hC hD hs hn;have H0 : Hid (InsL S 20 D 0 (n + 1) D) := lh (by rw [<- hn]; exact qgr);have HI0 := lh (IntI.refl hI);clear hR hC hD hs hI hn
 go_enter Tryz.func79, Tryz.ntmps79
 go_wp2
 go_loopg [7, 8] n (fun gh va vb wr => ∃ (a b k : Nat) (T : List Int), a ≤ n ∧ b = a + 20 ∧ n ≤ a + k ∧ gh = n - a ∧ va = .int .i64 a ∧ vb = .int .i64 b ∧ Hid (InsL S 20 D a (k + 1) T) ∧ Hid (IntI gs T w wr))
 case atStart => exact ⟨0, 20, n, D, Nat.zero_le _, rfl, by omega, rfl, rfl, rfl, H0, HI0⟩
 case round =>
  clear H0 HI0;obtain ⟨a, b, k, T, han, hb, hak, hg, rfl, rfl, hL, hT⟩ := hrel;obtain ⟨Hg, Hb⟩ := lh2 hg hb;clear hg hb
  by_cases hlt : b ≤ n
  ·have k1 : (b : Int) ≤ (n : Int) := by omega
   obtain ⟨k', rfl⟩ : ∃ k', k = k' + 1 := ⟨k - 1, by have := Hb.out; omega⟩;have hTl := qf9 hL.out (by rw [Hn.out]; exact han);obtain ⟨P, A, Q, hTe, hP, hA, hAs, hAD, hL2⟩ := qiw Hs.out hL.out (by rw [Hn.out, <- Hb.out]; exact hlt);rw [hTe] at hT hTl;have hQ : P.length + A.length + Q.length = n := by rw [<- Hn.out, <- hTl]; simp; omega
   have HT := lh hT.out;have HL2 := lh hL2;have HP := lh (And.intro hP (And.intro hA (And.intro hAs (And.intro hAD hQ))));clear hTe hP hA hAs hAD hL2 hL hT hTl hQ
   go_wp2_with fail
   refine q9v S g nn cp bx gs n c a b P A Q HP.out.1 (by have := HP.out; have := Hb.out; omega) HP.out.2.2.2.2 hn1 HP.out.2.2.1 (fun x hx => HD.out x (HP.out.2.2.2.1 x hx)) _ (HC.out.keep HT.out.2.2) HT.out.1 _ (fun w1 h1 => ?_);have HT1 := lh (HT.out.trans h1);clear h1;go_wp2
   go_roundg (n - b)
   case measure => have := Hg.out; have := Hb.out; omega
   case rel => exact ⟨b, b + 20, k', _, hlt, rfl, by have := Hb.out; omega, rfl, rfl, by go_num, by rw [Hb.out]; exact HL2, HT1⟩
  ·have k1 : ¬ (b : Int) ≤ (n : Int) := by omega
   have hTl := qf9 hL.out (by rw [Hn.out]; exact han);obtain ⟨P, A, hTe, hP, hA, hAs, hAD, hL2⟩ := qiv Hs.out hL.out (by rw [Hn.out]; exact han) (by rw [Hn.out]; have := Hb.out; omega);rw [hTe] at hT hTl;have HT := lh hT.out;have HL2 := lh hL2;have HP := lh (And.intro hP (And.intro hA (And.intro hAs hAD)));clear hTe hP hA hAs hAD hL2 hL hT hTl
   go_wp2_with fail
   refine q9v S g nn cp bx gs n c a n P A [] HP.out.1 (by have := HP.out; have := Hn.out; omega) (by have := HP.out; have := Hn.out; simp; omega) hn1 HP.out.2.2.1 (fun x hx => HD.out x (HP.out.2.2.2 x hx)) _ (HC.out.keep HT.out.2.2) HT.out.1 _ (fun w1 h1 => ?_)
   have HT1 : Hid (IntI gs (blks S 20 (n + 1) D) w w1) := lh (by
    have := HT.out.trans h1;rw [HL2.out, Hn.out] at this;exact this)
   clear h1 HL2 HT HP Hg Hb hak han hlt k1;go_wp2
   go_loopg [6] 1980 (fun gh vs wr => ∃ (s : Nat), 0 < s ∧ s ≤ 2000 ∧ gh = 2000 - s ∧ vs = .int .i64 s ∧ Hid (IntI gs (blks S s (n + 1) D) w wr))
   case atStart => exact ⟨20, by omega, by omega, rfl, rfl, HT1⟩
   case round =>
    clear HT1;obtain ⟨s, hs0, hs1, hg, rfl, hT⟩ := hrel;have Hg := lh hg;clear hg
    by_cases hsn : s < n
    ·have k1 : (s : Int) < (n : Int) := by omega
     obtain ⟨d, hd⟩ : ∃ d : Nat, d = 2 * s := ⟨_, rfl⟩;have e1 : (2 : Int) * (s : Int) = (d : Int) := by omega
     have hd1 : d ≤ 2000 := by omega
     have Hd := lh hd;have H1 : Hid (MrgL S s D 0 (n + 1) (blks S s (n + 1) D)) := lh (by rw [<- Hn.out]; exact qj7 hs0);clear hd;go_wp2
     go_loopg [7, 8] n (fun gh va vb wr => ∃ (a b k : Nat) (T : List Int), a ≤ n ∧ b = a + d ∧ n ≤ a + k ∧ gh = n - a ∧ va = .int .i64 a ∧ vb = .int .i64 b ∧ Hid (MrgL S s D a (k + 1) T) ∧ Hid (IntI gs T w wr))
     case atStart => exact ⟨0, d, n, _, Nat.zero_le _, by omega, by omega, rfl, rfl, by go_num, H1, hT⟩
     case round =>
      clear H1 hT;obtain ⟨a, b, k, T, han, hb, hak, hg, rfl, rfl, hL, hT⟩ := hrel;obtain ⟨Hg2, Hb⟩ := lh2 hg hb;clear hg hb;obtain ⟨m, hm⟩ : ∃ m : Nat, m = a + s := ⟨_, rfl⟩;have e2 : (a : Int) + (s : Int) = (m : Int) := by omega
      have Hm := lh hm;clear hm
      by_cases hlt : b ≤ n
      ·have k2 : (b : Int) ≤ (n : Int) := by omega
       obtain ⟨k', rfl⟩ : ∃ k', k = k' + 1 := ⟨k - 1, by have := Hb.out; have := Hd.out; omega⟩;have hTl := qfi hL.out (by rw [Hn.out]; exact han);obtain ⟨P, A, B, Q, hTe, hP, hA, hB, hle, hAD, hL2⟩ := qlt Hs.out hL.out (by rw [Hn.out, <- Hd.out, <- Hb.out]; exact hlt);rw [hTe] at hT hTl;have lA : (sortW (wtS S) A).length = s := by rw [(qs _ _).length_eq]; exact hA
       have lB : (sortW (wtS S) B).length = s := by rw [(qs _ _).length_eq]; exact hB
       have hQ : b + Q.length = n := by
        have := Hb.out;have := Hd.out;have := Hn.out;simp only [List.length_append, lA, lB] at hTl;omega
       have hDD : ∀ v ∈ sortW (wtS S) A ++ sortW (wtS S) B, 0 ≤ v ∧ v < (nn : Int) := fun v hv => by
        refine HD.out v (hAD v ?_)
        rcases List.mem_append.1 hv with h | h
        ·exact List.mem_append_left _ ((qs _ _).mem_iff.1 h)
        ·exact List.mem_append_right _ ((qs _ _).mem_iff.1 h)
       have hsy := qmt (S := S) (P := P) (Q := Q) (a := a) (m := m) (b := b) hle hP (by have := Hm.out; omega) (by have := Hm.out; have := Hb.out; have := Hd.out; omega);have HSy := lh hsy;have HT := lh hT.out;have HL2 := lh hL2;have HP := lh (And.intro lA (And.intro lB (And.intro hDD hQ)));clear hTe hP hA hB hle hAD hL2 hL hT hTl hQ hDD hsy lA lB
       go_wp2_with fail
       refine q75 S g nn cp bx gs n c hn1 _ P _ _ Q _ a m b (Nat.le_refl _) HSy.out (by rw [HP.out.1]; exact hs0) (by rw [HP.out.2.1]; exact hs0) HP.out.2.2.2 HP.out.2.2.1 _ (HC.out.keep HT.out.2.2) HT.out.1 _ (fun w2 D2 h1 h2 h3 => ?_)
       have HT2 : Hid (IntI gs (P ++ (sortW (wtS S) (A ++ B) ++ Q)) w w2) := lh (by
        rw [<- qcg h1 h2];exact HT.out.trans h3)
       clear h1 h2 h3;go_wp2
       go_roundg (n - b)
       case measure => have := Hg2.out; have := Hb.out; have := Hd.out; omega
       case rel => exact ⟨b, b + d, k', _, hlt, rfl, by have := Hb.out; have := Hd.out; omega, rfl, rfl, by go_num, by rw [Hb.out, Hd.out]; exact HL2, HT2⟩
      ·have k2 : ¬ (b : Int) ≤ (n : Int) := by omega
       have e3 : (s : Int) * 2 = (d : Int) := by omega
       by_cases hmn : m < n
       ·have k3 : (m : Int) < (n : Int) := by omega
        have hTl := qfi hL.out (by rw [Hn.out]; exact han);obtain ⟨P, A, B, hTe, hP, hA, hB, hle, hAD, hL2⟩ := qlr Hs.out hL.out (by rw [Hn.out, <- Hd.out, <- Hb.out]; omega) (by rw [Hn.out, <- Hm.out]; exact hmn);rw [hTe] at hT hTl;have lA : (sortW (wtS S) A).length = s := by rw [(qs _ _).length_eq]; exact hA
        have lB : m + (sortW (wtS S) B).length = n := by rw [(qs _ _).length_eq, Hm.out, <- Hn.out]; exact hB
        have hDD : ∀ v ∈ sortW (wtS S) A ++ sortW (wtS S) B, 0 ≤ v ∧ v < (nn : Int) := fun v hv => by
         refine HD.out v (hAD v ?_)
         rcases List.mem_append.1 hv with h | h
         ·exact List.mem_append_left _ ((qs _ _).mem_iff.1 h)
         ·exact List.mem_append_right _ ((qs _ _).mem_iff.1 h)
        have hsy := qmt (S := S) (P := P) (Q := []) (a := a) (m := m) (b := n) hle hP (by have := Hm.out; omega) (by have := Hm.out; have := Hn.out; omega);have HSy := lh hsy;have HT := lh hT.out;have HL2 := lh hL2;have HP := lh (And.intro lA (And.intro lB hDD));clear hTe hP hA hB hle hAD hL2 hL hT hTl hDD hsy lA lB
        go_wp2_with fail
        refine q75 S g nn cp bx gs n c hn1 _ P _ _ [] _ a m n (Nat.le_refl _) HSy.out (by rw [HP.out.1]; exact hs0) (by have := HP.out.2.1; omega) (by simp) HP.out.2.2 _ (HC.out.keep HT.out.2.2) HT.out.1 _ (fun w2 D2 h1 h2 h3 => ?_)
        have HT2 : Hid (IntI gs (blks S d (n + 1) D) w w2) := lh (by
         have h4 := HT.out.trans h3;rw [qcg h1 h2, HL2.out, Hn.out, <- Hd.out] at h4;exact h4)
        clear h1 h2 h3;go_wp2
        go_roundg (2000 - d)
        case measure => have := Hg.out; have := Hd.out; omega
        case rel => exact ⟨d, by have := Hd.out; omega, hd1, rfl, by go_num, HT2⟩
       ·have k3 : ¬ (m : Int) < (n : Int) := by omega
        have HT2 : Hid (IntI gs (blks S d (n + 1) D) w wr) := lh (by
         have h4 := hT.out;rw [qls hL.out (by rw [Hn.out, <- Hm.out]; omega), Hn.out, <- Hd.out] at h4;exact h4)
        clear hT hL;go_wp2
        go_roundg (2000 - d)
        case measure => have := Hg.out; have := Hd.out; omega
        case rel => exact ⟨d, by have := Hd.out; omega, hd1, rfl, by go_num, HT2⟩
    ·have k1 : ¬ (s : Int) < (n : Int) := by omega
     have hfin := lh (HR.out _ (by
      have := hT.out;rw [q63 S s n (by rw [Hn.out]; omega)] at this;exact this))
     clear hT;go_wp2
     all_goals first | exact hfin.out | (go_end0; exact hfin.out) | (refine bodyPost_ret (results_none rfl _ _ _) rfl ?_; first | done | exact hfin.out)
theorem qei (S : List Int) (g nn cp bx gs n c : Nat) (D : List Int) (hn : D.length = n) (hn1 : n ≤ 1000) (hs : D.Pairwise (· < ·)) (hD : ∀ x ∈ D, 0 ≤ x ∧ x < (nn : Int)) (w : World) (hC : CmpN S g nn cp bx gs w) (hI : IntAt gs D w) (R : Ending -> World -> Prop)
 (hR : ∀ w', IntI gs (sortW (wtS S) D) w w' -> R (.returned (.tuple #[])) w') :
 Calls Tryz.prog 43 #[.slice (some ⟨gs, 0, none⟩) n c, .func (.func 44) #[] #[.pointer (some ⟨bx, 0, none⟩)]] w R := by
 obtain ⟨HR, HC, HI, HD, Hn⟩ := lh5 hR hC hI hD hn;clear hR hC hI hD hn
 go_enter Tryz.func43, Tryz.ntmps43
 go_wp2_with fail
 refine qcy S g nn cp bx gs n c D Hn.out hn1 hs HD.out _ HC.out HI.out _ (fun w1 h1 => ?_);have hfin := lh (HR.out _ h1);clear h1;go_wp2
 all_goals first | exact hfin.out | (go_end0; exact hfin.out) | (refine bodyPost_ret (results_none rfl _ _ _) rfl ?_; first | done | exact hfin.out)
theorem qc6 (c : Nat) (bx : Nat) (w : World) (R : Ending -> World -> Prop) (hR : ∀ w', Below w.heap.size w w' -> R (.returned (.tuple #[])) w') :
 Calls Tryz.prog 102 #[.slice none 0 c, .int .i64 0, .int .i64 0, .func (.func 44) #[] #[.pointer (some ⟨bx, 0, none⟩)]] w R := by
 have hf := lh (hR _ (Below.refl _ _));clear hR
 go_enter Tryz.func102, Tryz.ntmps102
 go_wp2
 go_loopg [8] 0 (fun gh vi wr => gh = 0 ∧ vi = .int .i64 1 ∧ wr = w)
 case atStart => exact ⟨rfl, rfl, rfl⟩
 case round =>
  obtain ⟨rfl, rfl, rfl⟩ := hrel;go_wp2
  all_goals first | exact hf.out | (go_end0; exact hf.out) | (refine bodyPost_ret (results_none rfl _ _ _) rfl ?_; first | done | exact hf.out)
theorem q90 (c : Nat) (bx : Nat) (w : World) (R : Ending -> World -> Prop) (hR : ∀ w', Below w.heap.size w w' -> R (.returned (.tuple #[])) w') :
 Calls Tryz.prog 79 #[.slice none 0 c, .int .i64 0, .func (.func 44) #[] #[.pointer (some ⟨bx, 0, none⟩)]] w R := by
 have HR := lh hR;clear hR
 go_enter Tryz.func79, Tryz.ntmps79
 go_wp2
 go_loopg [7, 8] 0 (fun gh va vb wr => gh = 0 ∧ va = .int .i64 0 ∧ vb = .int .i64 20 ∧ wr = w)
 case atStart => exact ⟨rfl, rfl, rfl, rfl⟩
 case round =>
  obtain ⟨rfl, rfl, rfl, rfl⟩ := hrel
  go_wp2_with fail
  refine qc6 c bx _ _ (fun w1 hb1 => ?_);have Hb1 := lh hb1;have HR1 := lh (HR.out w1 hb1);clear hb1;go_wp2
  go_loopg [6] 0 (fun gh vs wr => gh = 0 ∧ vs = .int .i64 20 ∧ wr = w1)
  case atStart => exact ⟨rfl, rfl, rfl⟩
  case round =>
   obtain ⟨rfl, rfl, rfl⟩ := hrel;go_wp2
   all_goals first | exact HR1.out | (go_end0; exact HR1.out) | (refine bodyPost_ret (results_none rfl _ _ _) rfl ?_; first | done | exact HR1.out)
theorem qkf (c : Nat) (bx : Nat) (w : World) (R : Ending -> World -> Prop) (hR : ∀ w', Below w.heap.size w w' -> R (.returned (.tuple #[])) w') :
 Calls Tryz.prog 43 #[.slice none 0 c, .func (.func 44) #[] #[.pointer (some ⟨bx, 0, none⟩)]] w R := by
 have HR := lh hR;clear hR
 go_enter Tryz.func43, Tryz.ntmps43
 go_wp2_with fail
 refine q90 c bx _ _ (fun w1 h1 => ?_);have hfin := lh (HR.out _ h1);clear h1;go_wp2
 all_goals first | exact hfin.out | (go_end0; exact hfin.out) | (refine bodyPost_ret (results_none rfl _ _ _) rfl ?_; first | done | exact hfin.out)
theorem q43 {α β : Type} {f g : α -> List β} {l : List α} (h : ∀ x ∈ l, f x = g x) : l.flatMap f = l.flatMap g := by
 rw [List.flatMap_def, List.flatMap_def, List.map_congr_left h]
theorem q7l (S : List Int) : S.flatMap qh = S.map (Value.int .i64) := by
 induction S with
 | nil => rfl
 | cons x S ih => rw [List.flatMap_cons, ih]; rfl
theorem q4u {w : World} {base g n cap : Nat} {S : List Int} (h : w.ownsRow base 3 1 (.slice (some ⟨g, 0, none⟩) n cap) n (S.flatMap qh)) : IntAt g S w ∧ base ≤ g ∧ n ≤ cap ∧ cap ≤ maxLen := by
 rcases h.2 with ⟨h0, _⟩ | ⟨g', cap', cur, h0, h1, h2, h3, h4, h5, h6⟩
 ·cases h0
 ·injection h0 with e1 e2 e3
  injection e1 with e1
  injection e1 with e1
  subst e1 e3;rw [q7l] at h6;refine ⟨⟨cur, h2, fun k hk => ?_⟩, h1, h3, h4⟩
  have h7 : (cur.toList.take (n * 1))[k]? = some (.int .i64 (iAt S k)) := by
   rw [h6, List.getElem?_map, List.getElem?_eq_getElem hk];unfold iAt;rw [List.getD_eq_getElem?_getD, List.getElem?_eq_getElem hk];rfl
  rw [List.getElem?_take] at h7
  split at h7
  ·simpa using h7
  ·cases h7
theorem qej {v w : Int -> Int} {l : List Int} (h : ∀ x ∈ l, v x = w x) : sortW v l = sortW w l := by
 refine q4w (qs v l) ?_;have h1 := List.pairwise_mergeSort (q0a v) (q4o v) l;refine List.Pairwise.imp_of_mem (fun {a b} ha hb hab => ?_) h1;have ha := (qs v l).mem_iff.1 ha;have hb := (qs v l).mem_iff.1 hb;unfold q01 at *;rw [<- h a ha, <- h b hb];exact hab
theorem qkg {f : UFun} {n : Nat} {D : List Int} (hD : ∀ x ∈ D, 0 ≤ x ∧ x < (n : Int)) : sortW (wtS (rowW (regsF f) n)) D = sortW (wgt f) D := by
 refine qej fun x hx => ?_;obtain ⟨h0, h1⟩ := hD x hx;obtain ⟨k, rfl⟩ : ∃ k : Nat, x = (k : Int) := ⟨x.toNat, by omega⟩;unfold wtS wgt;rw [Int.toNat_natCast, q8s (by omega)]
theorem qik {pl : List Int} {k : Nat} (h : k < pl.length) (d : Int) : pl.getD k d = iAt pl k := by
 unfold iAt;rw [List.getD_eq_getElem?_getD, List.getD_eq_getElem?_getD, List.getElem?_eq_getElem h];rfl
theorem qkz {pl : List Int} {n : Nat} (hl : pl.length = n) {x : UIns} (hx : x.op = 1 -> x.a.reg = true -> (0 ≤ x.dst ∧ x.dst < (n : Int)) ∧ (0 ≤ x.a.n ∧ x.a.n < (n : Int))) (r : Int) : asksI pl r x = asksX pl r x := by
 unfold asksI asksX
 by_cases h : x.op = 1 ∧ x.a.reg = true
 ·rw [if_pos h, if_pos h];have := hx h.1 h.2;rw [qik (by omega), qik (by omega)]
 ·rw [if_neg h, if_neg h]
theorem qly (P : PW) (many : Int) (hm : 2 ≤ many ∧ many ≤ 14) (A : Int -> Bool) (r : Nat) (hr : r < P.n) (hx : ∀ b ∈ P.f.blocks, ∀ x ∈ b.list, x.op = 1 -> x.a.reg = true -> (0 ≤ x.dst ∧ x.dst < (P.n : Int)) ∧ (0 ≤ x.a.n ∧ x.a.n < (P.n : Int)))
 (hg : P.gv = q2c many) (ha : P.acl = rowX A P.n) (hrl : P.rows.length = P.n) : P.paint r = q5f P.f many (A r) (P.rows.getD r []) P.pl r := by
 have hro : ∀ o ∈ P.rows.getD r [], 0 ≤ o ∧ o < (P.n : Int) := by
  intro o ho;rw [List.getD_eq_getElem?_getD, List.getElem?_eq_getElem (by omega)] at ho;exact P.hrow _ (List.getElem_mem _) o ho
 have e1 : P.wishA r = asksF P.f P.pl r ++ q2c many := by
  unfold PW.wishA asksF;rw [hg]
  congr 2
  refine q43 (fun b hb => ?_);unfold asksJ asksB;exact q43 fun x hx' => qkz P.hpl (hx b hb x hx') _
 have e2 : P.fr r = freeB many (A r) (P.rows.getD r []) P.pl := by
  funext p
  unfold PW.fr freeI freeB PW.row;rw [qd2 P.hpl hro, hg, ha]
  congr 2
  ·rw [Bool.eq_iff_iff, decide_eq_true_eq];exact q9x hm
  ·congr 2
   rw [Bool.eq_iff_iff, decide_eq_true_eq, mem_rowX]
   constructor
   ·exact fun h => h.2
   ·exact fun h => ⟨by omega, h⟩
 unfold PW.paint q5f;rw [e1, e2];rfl
theorem qde (u : Unt) (hu : UntI u) (k : Int) (c a : Int) (hF : q1l u k = (c, a)) (hne : ¬ (c = 0 ∧ a = 0)) (gA fA : Option Addr) (gn gc fn fc : Nat) (w : World) (hW : Ways w) (hg : rpGlobal.SL w w.heap.size u.globals (.slice gA gn gc)) (hf : rpFun.SL w w.heap.size u.funcs (.slice fA fn fc)) (R : Ending -> World -> Prop)
 (hR : ∀ w', Below w.heap.size w w' -> R (.returned (.tuple #[.slice none 0 0, .agg #[.int .i64 c, .int .i64 a]])) w') :
 Calls Tryz.prog 37 #[.agg #[.slice gA gn gc, .slice fA fn fc], .int .i64 k] w R := by
 obtain ⟨HR, Hg, Hf, HW, HF⟩ := lh5 hR hg hf hW hF;clear hR hg hf hW hF
 go_enter Tryz.func37, Tryz.ntmps37
 go_upto_region 1 with fail
 obtain ⟨W2, hW2, hb2, hU2, hF2⟩ := box2 w (.cells #[.slice gA gn gc, .slice fA fn fc] 25) (.cells #[.int .i64 0, .int .i64 0] 30) rfl;rw [<- hW2];obtain ⟨Hb2, HU2, HF2⟩ := lh3 hb2 hU2 hF2;have hz2 := hb2.size;obtain ⟨u0, u1, lU⟩ := cbl hU2;clear hW2 hb2 hU2 hF2
 go_wp2_with fail
 refine q1o u hu k _ _ _ _ _ _ _ (HW.out.up Hb2.out HW.out.1) (Hg.out.up Hb2.out hz2) (Hf.out.up Hb2.out hz2) _ (fun w3 hb3 => ?_);rw [HF.out];have Hb3 := btt Hb2 hb3 hz2;have HF3 := bkk hb3 HF2;have hz3 := Hb3.out.size;clear hb3 u0 u1 lU;obtain ⟨W4, hW4, hb34, hE4⟩ := box1 w3 (.cells #[.int .i64 c, .int .i64 a] 30) rfl;have Hb4 := btt Hb3 hb34 hz3;have HF4 := bkk hb34 HF3;have HW4 := lh hW4.symm;have Hbl := lh (q02 Hb4.out.drew [(⟨w.heap.size + 1, 0, none⟩, .int .i64 c), (⟨w.heap.size + 1, 1, none⟩, .int .i64 a)] (by simp));have HE4 := lh hE4;clear hW4 hb34 hE4;obtain ⟨e0, e1, lE⟩ := cbl HE4.out;obtain ⟨f0, f1, lF⟩ := cbl HF4.out;have y0 := fzz HF4.out 0;have y1 := fzz HF4.out 1
 go_upto_region 2 with fail
 rw [HW4.out]
 by_cases hc : c = 0
 ·subst hc;have ha : ¬ a = 0 := fun h => hne ⟨rfl, h⟩;clear hne;go_wp2
  go_region
  go_wp2;refine bodyPost_ret (v := .tuple #[.slice none 0 0, .agg #[.int .i64 0, .int .i64 a]]) (by simp [results, Tryz.results37, go_sem, f0, f1, lF]) rfl ?_;exact HR.out _ Hbl.out
 ·clear hne;go_wp2
  go_region
  go_wp2;refine bodyPost_ret (v := .tuple #[.slice none 0 0, .agg #[.int .i64 c, .int .i64 a]]) (by simp [results, Tryz.results37, go_sem, f0, f1, lF]) rfl ?_;exact HR.out _ Hbl.out
end Go.Proofs.YtdanebboiekieaaGreatDoor
namespace Go.Proofs.YtdanebboiekieaaGreatDoor
open Go.RowKit
open Go.Maps Go.WideShapes Go.MapKept Go.ChangeMaps Go.ChangeShapes
theorem qao : (Tryz.prog.info? 116).map (fun i => (i.zero, i.size, i.bytes)) = some (some (.map none), 1, 8) := by kernel_rfl
theorem qj6 (W : World) (n : Nat) (hn : n ≤ 5000) : (Instr.makeSlice 114 (.int .i64 (n : Int)) (.int .i64 (n : Int))).run Tryz.prog W = .ok (.slice (some ⟨W.heap.size, 0, none⟩) n n) (W.alloc (.cells (List.replicate n (Value.map none)).toArray 116)) := by
 obtain ⟨iB, hi, z0, z1, z2⟩ := info_parts qao;have h := run_make (P := Tryz.prog) W 114 116 iB _ Tryz.underlying114 hi z0 .i64 .i64 (n : Int) (n : Int) (by omega) (Int.le_refl _) (by rw [z2]; omega) (by omega);rw [z1] at h;simp only [Int.toNat_natCast, Nat.mul_one] at h
 have e : madeCells (Value.map none).cells n = (List.replicate n (Value.map none)).toArray := by
  unfold madeCells;apply Array.ext
  ·simp
  ·intro i h1 h2;simp [Value.cells, Nat.mod_one]
 rw [e] at h;exact h
theorem JO.more {n b0 n0 n1 g c sb cb : Nat} {ms : Nat -> Nat} {σ : Int -> Int -> Bool} {W : World} (h : JO n b0 n0 g c sb cb ms σ W) (hn : n0 ≤ n1) (hl : n1 ≤ W.heap.size) : JO n b0 n1 g c sb cb ms σ W := by
 obtain ⟨h1, h2, h3, h4, h5⟩ := h.lo;exact ⟨h.box, h.cbox, h.row, h.sets, h.inj, by omega, by omega, by omega, hl, fun k hk => by have := h5 k hk; omega⟩
theorem qgh (σ : Int -> Int -> Bool) (a b p q : Int) : q41 σ a b p q = true ↔ (σ p q = true ∨ (a ≠ b ∧ ((p = a ∧ q = b) ∨ (p = b ∧ q = a)))) := by
 unfold q41;simp only [Bool.or_eq_true, Bool.and_eq_true, Bool.not_eq_true', decide_eq_false_iff_not, decide_eq_true_eq, ne_eq]
def PairT (B : List Int) (i : Nat) (p q : Int) : Prop := (p ∈ B.take i ∧ q ∈ B) ∨ (q ∈ B.take i ∧ p ∈ B)
def PairU (B : List Int) (i j : Nat) (a p q : Int) : Prop := PairT B i p q ∨ (p = a ∧ q ∈ B.take j) ∨ (q = a ∧ p ∈ B.take j)
theorem q2y {B : List Int} {j : Nat} (h : j < B.length) (x : Int) : x ∈ B.take (j + 1) ↔ (x ∈ B.take j ∨ x = B[j]) := by
 rw [List.take_succ_eq_append_getElem h, List.mem_append, List.mem_singleton]
theorem qh4 {σ : Int -> Int -> Bool} {B : List Int} {i j : Nat} {a : Int} (hj : j < B.length) (h : ∀ p q, σ p q = true ↔ (p ≠ q ∧ PairU B i j a p q)) (p q : Int) : q41 σ a B[j] p q = true ↔ (p ≠ q ∧ PairU B i (j + 1) a p q) := by
 rw [qgh, h];unfold PairU;rw [q2y hj, q2y hj]
 constructor
 ·rintro (⟨h1, h2 | ⟨h2, h3⟩ | ⟨h2, h3⟩⟩ | ⟨h1, ⟨h2, h3⟩ | ⟨h2, h3⟩⟩)
  ·exact ⟨h1, .inl h2⟩
  ·exact ⟨h1, .inr (.inl ⟨h2, .inl h3⟩)⟩
  ·exact ⟨h1, .inr (.inr ⟨h2, .inl h3⟩)⟩
  ·exact ⟨fun e => h1 (by rw [<- h2, <- h3]; exact e), .inr (.inl ⟨h2, .inr h3⟩)⟩
  ·exact ⟨fun e => h1 (by rw [<- h3, <- h2]; exact e.symm), .inr (.inr ⟨h3, .inr h2⟩)⟩
 ·rintro ⟨h1, h2 | ⟨h2, h3 | h3⟩ | ⟨h2, h3 | h3⟩⟩
  ·exact .inl ⟨h1, .inl h2⟩
  ·exact .inl ⟨h1, .inr (.inl ⟨h2, h3⟩)⟩
  ·exact .inr ⟨fun e => h1 (by rw [h2, h3]; exact e), .inl ⟨h2, h3⟩⟩
  ·exact .inl ⟨h1, .inr (.inr ⟨h2, h3⟩)⟩
  ·exact .inr ⟨fun e => h1 (by rw [h2, h3]; exact e.symm), .inr ⟨h3, h2⟩⟩
theorem qh3 {B : List Int} {i : Nat} {a : Int} (p q : Int) : PairU B i 0 a p q ↔ PairT B i p q := by
 unfold PairU;simp
theorem qji {B : List Int} {i : Nat} (hi : i < B.length) (p q : Int) : PairU B i B.length B[i] p q ↔ PairT B (i + 1) p q := by
 unfold PairU PairT;rw [q2y hi, q2y hi, List.take_length]
 constructor
 ·rintro ((⟨h1, h2⟩ | ⟨h1, h2⟩) | ⟨h1, h2⟩ | ⟨h1, h2⟩)
  ·exact .inl ⟨.inl h1, h2⟩
  ·exact .inr ⟨.inl h1, h2⟩
  ·exact .inl ⟨.inr h1, h2⟩
  ·exact .inr ⟨.inr h1, h2⟩
 ·rintro (⟨h1 | h1, h2⟩ | ⟨h1 | h1, h2⟩)
  ·exact .inl (.inl ⟨h1, h2⟩)
  ·exact .inr (.inl ⟨h1, h2⟩)
  ·exact .inl (.inr ⟨h1, h2⟩)
  ·exact .inr (.inr ⟨h1, h2⟩)
theorem ql6 {u : Unt} {f : UFun} (hf : FunOk u f) {a b : Int} (h : Clash f a b) : b < f.regs := by
 obtain ⟨_, _, _, ⟨_, h⟩ | ⟨_, _, _, _, _, _, _, h, _⟩ | ⟨i, k, blk, x, h1, h2, h3, _⟩⟩ := h
 ·exact (h.lt hf).2
 ·exact (h.lt hf).2
 ·have := (hf.ins blk (List.mem_of_getElem? h1) x (List.mem_of_getElem? h2)).dst;omega
def q8v (C : Int -> Int -> Bool) (n k : Nat) : List (List Int) := (ints k).map fun a => rowX (C a) n
theorem qeb (C : Int -> Int -> Bool) (n k : Nat) : q8v C n (k + 1) = q8v C n k ++ [rowX (C (k : Int)) n] := by
 unfold q8v;rw [q4s, List.map_append];rfl
theorem qha (C : Int -> Int -> Bool) (n k : Nat) : (q8v C n k).length = k := by
 unfold q8v;rw [List.length_map, q2x]
structure MkS (n g G r : Nat) (W : World) : Prop where
 row : ∃ A : Array Value, W.heap[g]? = some (.cells A 116 (0, 0)) ∧ A.size = n ∧ ∀ k, k < r -> A[k]? = some (.map (some (G + k)))
 size : W.heap.size = G + r
 sets : ∀ k, k < r -> SetM W (G + k) (fun _ => false)
theorem MkS.step {n g G r : Nat} {W : World} (h : MkS n g G r W) (hg : g < G) (hr : r < n) : MkS n g G (r + 1) ((W.alloc (Obj.map #[] 0)).setCell ⟨g, r, none⟩ (.map (some (G + r)))) := by
 obtain ⟨⟨A, h1, h2, h3⟩, h4, h5⟩ := h;have hb : (W.alloc (Obj.map #[] 0)).heap[g]? = some (.cells A 116 (0, 0)) := qf h1 _;refine ⟨⟨A.setIfInBounds r (.map (some (G + r))), q0h hb _, by simp [h2], fun k hk => ?_⟩, by simp [World.setCell]; omega, fun k hk => ?_⟩
 ·rw [Array.getElem?_setIfInBounds]
  by_cases e : r = k
  ·subst e;rw [if_pos rfl, if_pos (by omega)]
  ·rw [if_neg e];exact h3 k (by omega)
 ·have hne : G + k ≠ g := by omega
  refine SetM.block (w := W.alloc (Obj.map #[] 0)) ?_ (Below.heap_setCell _ _ _ _ hne)
  by_cases e : k = r
  ·subst e;rw [<- h4];exact SetM.made W
  ·exact (h5 k (by omega)).kept (World.grownBy_alloc W (Obj.map #[] 0) none) (by simp)
theorem qel (C : Int -> Int -> Bool) (L : Nat -> Nat -> Int -> Bool) (u : Unt) (hu : UntI u) (hok : qo u = (0, 0)) (k : Nat) (f : UFun) (hkf : u.funcs[k]? = some f) (hnp : ∀ b ∈ f.blocks, b.phis = []) (hto : ∀ b ∈ f.blocks, b.end_.to.length ≤ 2) (n : Nat) (hn : f.regs = (n : Int)) (hL : ∀ i k r, L i k r = true ↔ LvI f r i k) (hC : ∀ a b, C a b = true ↔ Clash f a b) (gA fA : Option Addr) (gn gc fc : Nat) (w : World) (hW : Ways w) (hg : rpGlobal.SL w w.heap.size u.globals (.slice gA gn gc)) (hf : rpFun.SL w w.heap.size u.funcs (.slice fA u.funcs.length fc)) (R : Ending -> World -> Prop)
 (hR : ∀ w' v', Below w.heap.size w w' -> rpInt.slice.SLF w' w.heap.size w'.heap.size (rowsC C n) v' -> R (.returned (.tuple #[v', (.agg #[.int .i64 (((0 : Int), (0 : Int))).1, .int .i64 (((0 : Int), (0 : Int))).2])])) w') :
 Calls Tryz.prog 37 #[.agg #[.slice gA gn gc, .slice fA u.funcs.length fc], .int .i64 (k : Int)] w R := by
 have hfo := funOk hok hkf;have hn1 : n ≤ 100 := by have := hfo.regs.2; omega
 have hcl := qaf hok hkf hnp;obtain ⟨iC, hiC, zC0, zC1, zC2⟩ := info_parts q72;obtain ⟨hku, hfk⟩ := List.getElem?_eq_some_iff.1 hkf;obtain ⟨bf, offf, vb, hfA, hbf, hsb, qf0, qf1, qf2, qf3⟩ := hf.fun_at hku;subst hfA;rw [hfk] at qf0 qf1 qf2 hsb;rw [hn] at qf2;obtain ⟨bA, bc, rfl, _, _, _⟩ := hsb.cases_;have k0 := nnn k;have k1 : (k : Int) < (u.funcs.length : Int) := by omega
 obtain ⟨HR, Hg, Hf, HW, Hk, Hkf, Hnp, Hto, Hn, HL, HC, Hcl⟩ := lh12 hR hg hf hW hok hkf hnp hto hn hL hC hcl;have Hfo := lh hfo;clear hR hg hf hW hok hkf hnp hto hn hL hC hcl hfo hsb hfk
 go_enter Tryz.func37, Tryz.ntmps37
 go_upto_region 1 with fail
 obtain ⟨W2, hW2, hb2, hU2, hF2⟩ := box2 w (.cells #[.slice gA gn gc, .slice (some ⟨bf, offf, none⟩) u.funcs.length fc] 25) (.cells #[.int .i64 0, .int .i64 0] 30) rfl;rw [<- hW2];obtain ⟨Hb2, HU2, HF2⟩ := lh3 hb2 hU2 hF2;have hz2 := hb2.size;obtain ⟨u0, u1, lU⟩ := cbl hU2;clear hW2 hb2 hU2 hF2
 go_wp2_with fail
 refine q1o u hu (k : Int) _ _ _ _ _ _ _ (HW.out.up Hb2.out HW.out.1) (Hg.out.up Hb2.out hz2) (Hf.out.up Hb2.out hz2) _ (fun w3 hb3 => ?_);rw [Hcl.out];have Hb3 := btt Hb2 hb3 hz2;have HU3 := bkk hb3 HU2;have HF3 := bkk hb3 HF2;have hz3 := Hb3.out.size;clear hb3 u0 u1 lU;obtain ⟨u0, u1, lU⟩ := cbl HU3.out;obtain ⟨g, hg⟩ := nmm (w3.heap.size + 1);obtain ⟨W5, hW5⟩ : ∃ W5, W5 = ((w3.alloc (Obj.cells #[.int .i64 0, .int .i64 0] 30)).alloc (.cells (Array.replicate n (Value.map none)) 116)).alloc (Obj.cells #[.slice (some ⟨g, 0, none⟩) n n] 114) := ⟨_, rfl⟩;have hmk := qj6 (w3.alloc (Obj.cells #[.int .i64 0, .int .i64 0] 30)) n (by omega);have hsz : (w3.alloc (Obj.cells #[.int .i64 0, .int .i64 0] 30)).heap.size = g := by rw [hg]; simp
 rw [hsz] at hmk;have q2 := (Hb3.out.cell (p := ⟨bf, offf + k * 4 + 2, none⟩) hbf).trans qf2;have lbf : bf < w3.heap.size := by omega
 have hb35 : Below w3.heap.size w3 W5 := by subst hW5; exact bl0
 have hM5 : MkS n g (g + 2) 0 W5 := by
  subst hW5;refine ⟨⟨_, qf (by have := heap_alloc_new (w3.alloc (Obj.cells #[.int .i64 0, .int .i64 0] 30)) (.cells (Array.replicate n (Value.map none)) 116); rw [hsz] at this; exact this) _, by simp, fun k hk => absurd hk (Nat.not_lt_zero k)⟩, by simp; omega, fun k hk => absurd hk (Nat.not_lt_zero k)⟩
 have hX5 : W5.heap[g + 1]? = some (.cells #[.slice (some ⟨g, 0, none⟩) n n] 114 (0, 0)) := by
  have := heap_alloc_new ((w3.alloc (Obj.cells #[.int .i64 0, .int .i64 0] 30)).alloc (.cells (Array.replicate n (Value.map none)) 116)) (Obj.cells #[.slice (some ⟨g, 0, none⟩) n n] 114);rw [<- hW5] at this;have e : ((w3.alloc (Obj.cells #[.int .i64 0, .int .i64 0] 30)).alloc (.cells (Array.replicate n (Value.map none)) 116)).heap.size = g + 1 := by simp; omega
  rwa [e] at this
 have Hb5 := btt Hb3 hb35 hz3;have HU5 := bkk hb35 HU3;have HF5 := bkk hb35 HF3;obtain ⟨HM5, HX5⟩ := lh2 hM5 hX5;have HW5 := lh hW5.symm;have Hg3 : Hid (w.heap.size + 1 < g ∧ w3.heap.size < g) := lh ⟨by have := qa HF3.out; omega, by omega⟩;have Hgs := lh hg;have hz5 := Hb5.out.size;clear hb35 hM5 hX5 hW5 hsz hg
 go_upto_region 5 with fail
 rw [HW5.out, show w3.heap.size + 1 + 1 = g + 1 from by have := Hgs.out; omega];clear u0 u1 lU q2 lbf hmk;have hmm := @run_makeMap Tryz.prog;have x0 : W5.cell? ⟨g + 1, 0, none⟩ = some (.slice (some ⟨g, 0, none⟩) n n) := cqq HX5.out;have lX := qa HX5.out;go_wp2;clear x0 lX
 go_loopg [34] n (fun gh s34 wr => ∃ r : Nat, r ≤ n ∧ gh = n - r ∧ s34 = .int .i64 (r : Int) ∧ Hid (MkS n g (g + 2) r wr) ∧ Hid (Grew (fun k => k = g) W5 wr))
 case atStart => exact ⟨0, Nat.zero_le _, rfl, rfl, HM5, lh (Grew.refl _ _)⟩
 case round =>
  obtain ⟨r, hr, rfl, rfl, HMr, HGr⟩ := hrel;have hzr : W5.heap.size ≤ wr.heap.size := HGr.out.size;have hXr := (HGr.out.block _ (qa HX5.out) (by omega)).trans HX5.out;have x0 : wr.cell? ⟨g + 1, 0, none⟩ = some (.slice (some ⟨g, 0, none⟩) n n) := cqq hXr;have lX := qa hXr;have r1 := nnn r
  by_cases hlt : r < n
  ·have r2 : (r : Int) < (n : Int) := by omega
   obtain ⟨A, hA1, hA2, hA3⟩ := HMr.out.row;have hA1' : (wr.alloc (Obj.map #[] 0)).heap[g]? = some (.cells A 116 (0, 0)) := qf hA1 _;obtain ⟨v0, hv0⟩ : ∃ v0, A[r]? = some v0 := ⟨A[r]'(by omega), Array.getElem?_eq_getElem (by omega)⟩;have a0 : wr.cell? ⟨g, r, none⟩ = some v0 := by rw [qb hA1]; exact hv0
   have fA := fzz hA1 r;have lg := qa hA1;have hst := HMr.out.step (by omega) hlt;have hsz := HMr.out.size;rw [<- hsz] at hst
   have hG2 : Grew (fun k => k = g) W5 ((wr.alloc (Obj.map #[] 0)).setCell ⟨g, r, none⟩ (.map (some wr.heap.size))) := by
    have h1 := HGr.out;refine Grew.trans h1 (?_ : Grew (fun k => k = g) wr _) (fun _ _ h => h);exact ⟨rfl, rfl, rfl, by simp [World.setCell], fun k hk hx => (Below.heap_setCell _ _ _ _ hx).trans (Below.heap_alloc wr (Obj.map #[] 0) k hk)⟩
   have hcomm : (wr.alloc (Obj.map #[] 0)).setCell ⟨g, r, none⟩ (.map (some wr.heap.size)) = (wr.setCell ⟨g, r, none⟩ (.map (some wr.heap.size))).alloc (Obj.map #[] 0) := World.setCell_alloc_past (Obj.map #[] 0) g r _ lg;rw [hcomm] at hst hG2;obtain ⟨Hst, HG2⟩ := lh2 hst hG2;clear hst hG2 hA1 hA1' hv0 hXr hA2 hA3 hsz;go_wp2
   go_roundg (n - (r + 1))
   case measure => omega
   case rel => exact ⟨r + 1, hlt, rfl, by go_num, Hst, HG2⟩
  ·obtain rfl : r = n := by omega
   have r2 : ¬ ((r : Int) < (r : Int)) := by omega
   obtain ⟨cb, hcb⟩ := nmm (wr.heap.size);obtain ⟨W7, hW7, hb7, hQ7⟩ := box1 wr (.cells #[.func (.func 72) #[] #[.pointer (some ⟨g + 1, 0, none⟩)]] 104) hcb;have hsz7 : W7.heap.size = wr.heap.size + 1 := by subst hW7; simp
   have hJ7 : JO r w.heap.size W7.heap.size g r (g + 1) cb (fun k => g + 2 + k) (fun _ _ => false) W7 := by
    obtain ⟨A, hA1, hA2, hA3⟩ := HMr.out.row;have hsz := HMr.out.size;have hA7 := (hb7.block _ (qa hA1)).trans hA1;have hX7 := (hb7.block _ lX).trans hXr;refine ⟨by rw [qb hX7]; rfl, by rw [qb hQ7]; rfl, fun k hk => by rw [qb hA7]; exact hA3 k hk, fun k hk => (HMr.out.sets k hk).below hb7, fun j k _ _ e => by omega, by omega, by omega, by omega, Nat.le_refl _, fun k hk => by have := Hg3.out; omega⟩
   have hB5r : Below w.heap.size w wr := ⟨HGr.out.os.trans Hb5.out.os, HGr.out.tape.trans Hb5.out.tape, HGr.out.output.trans Hb5.out.output, by omega, fun k hk => (HGr.out.block k (by omega) (by have := Hg3.out; omega)).trans (Hb5.out.block k hk)⟩;have Hb7 := lh (hB5r.trans (hb7.mono (by omega)));have HU7 := lh ((hb7.block _ (by have := qa HU5.out; omega)).trans ((HGr.out.block _ (qa HU5.out) (by have := Hg3.out; omega)).trans HU5.out));have HF7 := lh ((hb7.block _ (by have := qa HF5.out; omega)).trans ((HGr.out.block _ (qa HF5.out) (by have := Hg3.out; omega)).trans HF5.out));have HJ7 := lh hJ7;have HW7 := lh hW7.symm;have hz7 := Hb7.out.size;clear hb7 hQ7 hJ7 hB5r hW7 x0 lX hXr HMr HGr hmm
   go_upto_region 11 with fail
   rw [HW7.out, <- hcb];clear hcb;obtain ⟨u0, u1, lU⟩ := cbl HU7.out
   go_wp2_with fail
   refine q5k u hu Hk.out k f Hkf.out Hnp.out Hto.out r Hn.out _ _ _ _ _ _ _ (HW.out.up Hb7.out HW.out.1) (Hg.out.up Hb7.out hz7) (Hf.out.up Hb7.out hz7) _ (fun w8 S v8 hb8 hsl8 hSn hSL => ?_);obtain ⟨A8, c8, rfl, _, _, hsl8⟩ := hsl8.cases_
   have hBg : ∀ z, z ∈ setL S ↔ LvI f z 0 0 := fun z => by
    rw [mem_setL]
    constructor
    ·rintro ⟨x, rfl, h1, h2⟩;exact ⟨x, rfl, (hSL x (by omega)).1 h2⟩
    ·rintro ⟨x, rfl, h2⟩;have := qlq Hfo.out h2;rw [Hn.out] at this;exact ⟨x, rfl, by omega, (hSL x (by omega)).2 h2⟩
   have hBr : ∀ z ∈ setL S, 0 ≤ z ∧ z < (r : Int) := fun z hz => by
    obtain ⟨x, rfl, h1, _⟩ := mem_setL.1 hz;omega
   obtain ⟨HBg, HBr⟩ := lh2 hBg hBr;have Hsl8 := lh hsl8.SL;have HJ8 := lh (HJ7.out.below hb8);have Hb8 := btt Hb7 hb8 hz7;have HU8 := lh ((hb8.block _ lU).trans HU7.out);have HF8 := bkk hb8 HF7;have hz8 := Hb8.out.size;have hz78 := hb8.size;generalize setL S = Bg at *;clear hb8 hsl8 hSn hSL hBg hBr u0 u1 lU
   go_wp2_with fail
   go_loopg [48] Bg.length (fun gh s48 wx => ∃ i : Nat, i ≤ Bg.length ∧ gh = Bg.length - i ∧ s48 = .int .i64 (i : Int) ∧ Hid (∃ σ, JO r w.heap.size W7.heap.size g r (g + 1) cb (fun k => g + 2 + k) σ wx ∧ ∀ p q, σ p q = true ↔ (p ≠ q ∧ PairT Bg i p q)) ∧ Hid (Mid w.heap.size W7.heap.size w8 wx) ∧ Hid (CKeepA w8 wx))
   case atStart => exact ⟨0, Nat.zero_le _, rfl, rfl, lh ⟨_, HJ8.out, fun p q => by simp [PairT]⟩, lh (Grew.refl _ _), lh (CKeepA.refl _)⟩
   case round =>
    obtain ⟨i, hi, rfl, rfl, HJi, HMi, HCi⟩ := hrel;have i1 := nnn i;have hzi : w8.heap.size ≤ wr.heap.size := HMi.out.size;obtain ⟨wi, hwi⟩ := nmm (wr);rw [<- hwi] at HJi HMi HCi hzi ⊢;clear hwi
    by_cases hlt : i < Bg.length
    ·obtain ⟨b8, o8, rfl, hb8, p0⟩ := Hsl8.out.int_at hlt;have i2 : (i : Int) < (Bg.length : Int) := by omega
     have r0 := HCi.out.cell p0;have lb8 := World.block_lt_of_cell? wi _ r0;have hgd : Bg.getD i 0 = Bg[i] := by rw [List.getD_eq_getElem?_getD, List.getElem?_eq_getElem hlt]; rfl
     obtain ⟨a, haa, har⟩ : ∃ a : Nat, Bg.getD i 0 = (a : Int) ∧ a < r := by
      have := HBr.out _ (List.getElem_mem hlt);exact ⟨(Bg[i]).toNat, by rw [hgd]; omega, by omega⟩
     have Haa : Hid (Bg[i] = (a : Int)) := lh (by rw [<- hgd]; exact haa);rw [haa] at r0;clear p0 hgd haa
     go_wp2_with fail
     clear r0 lb8
     go_loopg [54] Bg.length (fun gh s54 wx => ∃ j : Nat, j ≤ Bg.length ∧ gh = Bg.length - j ∧ s54 = .int .i64 (j : Int) ∧ Hid (∃ σ, JO r w.heap.size W7.heap.size g r (g + 1) cb (fun k => g + 2 + k) σ wx ∧ ∀ p q, σ p q = true ↔ (p ≠ q ∧ PairU Bg i j (a : Int) p q)) ∧ Hid (Mid w.heap.size W7.heap.size w8 wx) ∧ Hid (CKeepA w8 wx))
     case atStart =>
      obtain ⟨σ, h1, h2⟩ := HJi.out;exact ⟨0, Nat.zero_le _, rfl, rfl, lh ⟨σ, h1, fun p q => by rw [h2, qh3]⟩, HMi, HCi⟩
     case round =>
      obtain ⟨j, hj, rfl, rfl, HJj, HMj, HCj⟩ := hrel;have j1 := nnn j
      by_cases hltj : j < Bg.length
      ·obtain ⟨b9, o9, hA9, hb9, p0⟩ := Hsl8.out.int_at hltj
       cases hA9
       have j2 : (j : Int) < (Bg.length : Int) := by omega
       have r0 := HCj.out.cell p0;have lb9 := World.block_lt_of_cell? wr _ r0;have hgd : Bg.getD j 0 = Bg[j] := by rw [List.getD_eq_getElem?_getD, List.getElem?_eq_getElem hltj]; rfl
       obtain ⟨b, hbb, hbr⟩ : ∃ b : Nat, Bg.getD j 0 = (b : Int) ∧ b < r := by
        have := HBr.out _ (List.getElem_mem hltj);exact ⟨(Bg[j]).toNat, by rw [hgd]; omega, by omega⟩
       have Hbb : Hid (Bg[j] = (b : Int)) := lh (by rw [<- hgd]; exact hbb);rw [hbb] at r0;obtain ⟨σ, hJj, hσ⟩ := HJj.out;have c0 := hJj.cbox;have lc := World.block_lt_of_cell? wr _ c0;obtain ⟨HJ, Hσ⟩ := lh2 hJj hσ;clear p0 hgd hbb hJj hσ
       go_wp2_with fail
       refine qci r w.heap.size W7.heap.size g r (g + 1) cb _ σ a b _ HJ.out har hbr hn1 _ (fun w5 hJ5 hM5 hC5 => ?_);have HJ5 : Hid (∃ σ, JO r w.heap.size W7.heap.size g r (g + 1) cb (fun k => g + 2 + k) σ w5 ∧ ∀ p q, σ p q = true ↔ (p ≠ q ∧ PairU Bg i (j + 1) (a : Int) p q)) := lh ⟨_, hJ5, fun p q => by rw [<- Hbb.out]; exact qh4 hltj Hσ.out p q⟩;have HM5 := lh (HMj.out.to hM5);have HC5 := lh (HCj.out.trans hC5);clear hJ5 hM5 hC5 r0 lb9 c0 lc;go_wp2
       go_roundg (Bg.length - (j + 1))
       case measure => omega
       case rel => exact ⟨j + 1, hltj, rfl, by go_num, HJ5, HM5, HC5⟩
      ·obtain rfl : j = Bg.length := by omega
       have j2 : ¬ ((Bg.length : Int) < (Bg.length : Int)) := by omega
       have HJ5 : Hid (∃ σ, JO r w.heap.size W7.heap.size g r (g + 1) cb (fun k => g + 2 + k) σ wr ∧ ∀ p q, σ p q = true ↔ (p ≠ q ∧ PairT Bg (i + 1) p q)) := lh (by
        obtain ⟨σ, h1, h2⟩ := HJj.out;exact ⟨σ, h1, fun p q => by rw [h2, <- Haa.out, qji hlt]⟩)
       go_wp2
       go_roundg (Bg.length - (i + 1))
       case measure => omega
       case rel => exact ⟨i + 1, hlt, rfl, by go_num, HJ5, HMj, HCj⟩
    ·obtain rfl : i = Bg.length := by omega
     have i2 : ¬ ((Bg.length : Int) < (Bg.length : Int)) := by omega
     obtain ⟨σ0, hJ9, hσ0⟩ := HJi.out;have hwi : Below w.heap.size w wi := ⟨HMi.out.os.trans Hb8.out.os, HMi.out.tape.trans Hb8.out.tape, HMi.out.output.trans Hb8.out.output, by omega, fun k hk => (HMi.out.block k (by omega) (by omega)).trans (Hb8.out.block k hk)⟩;have Hwi := lh hwi;have HJ9 := lh (hJ9.more (n1 := wi.heap.size) (by omega) (Nat.le_refl _))
     have Hσ0 : Hid (∀ p q, σ0 p q = true ↔ (p ≠ q ∧ LvI f p 0 0 ∧ LvI f q 0 0)) := lh (fun p q => by
      rw [hσ0, <- HBg.out, <- HBg.out];unfold PairT;rw [List.take_length]
      constructor
      ·rintro ⟨h1, ⟨h2, h3⟩ | ⟨h2, h3⟩⟩
       ·exact ⟨h1, h2, h3⟩
       ·exact ⟨h1, h3, h2⟩
      ·rintro ⟨h1, h2, h3⟩;exact ⟨h1, .inl ⟨h2, h3⟩⟩)
     have HU9 := lh (HCi.out.blk HU8.out);have HF9 := lh (HCi.out.blk HF8.out);have hzw := hwi.size;clear hJ9 hσ0 hwi HJi;obtain ⟨u0, u1, lU⟩ := cbl HU9.out
     go_wp2_with fail
     refine q9k 74 ⟨_, Tryz.func74, by kernel_rfl, by kernel_rfl⟩ (JO r w.heap.size wi.heap.size g r (g + 1) cb (fun k => g + 2 + k)) updO (.pointer (some ⟨cb, 0, none⟩)) L u hu Hk.out k f Hkf.out Hnp.out Hto.out r Hn.out HL.out _ _ _ _ _ w.heap.size wi (HW.out.up Hwi.out HW.out.1) (Hg.out.up Hwi.out (Nat.le_refl _)) (Hf.out.up Hwi.out (Nat.le_refl _)) hzw HW.out.1 (fun σ W W' h hb => h.below hb) σ0 HJ9.out (fun σ x va W mp X hx hj hmp hS hX R hR => qjc u r w.heap.size wi.heap.size _ _ _ _ _ σ x va W mp X hx hj hn1 hmp hS hX R hR) _ (fun w9 hJ9 hM9 hC9 => ?_);obtain ⟨σ9, hσ9⟩ := nmm (runF updO f.blocks L f.blocks.length σ0);rw [<- hσ9] at hJ9
     have Hrow : Hid (∀ a : Nat, rowX (σ9 (a : Int)) r = rowX (C (a : Int)) r) := lh (fun a => qh9 (fun x hx _ => by
      rw [Bool.eq_iff_iff, hσ9, qbo HL.out Hσ0.out (Int.natCast_nonneg _) hx, HC.out]))
     have hσr : ∀ a : Nat, ∀ x, σ9 (a : Int) x = true -> x < (r : Int) := fun a x hx => by
      rcases Int.lt_or_le x 0 with h0 | h0
      ·omega
      ·have h1 := ql6 Hfo.out ((qbo HL.out Hσ0.out (Int.natCast_nonneg a) h0).1 (by rw [<- hσ9]; exact hx));rw [Hn.out] at h1;exact h1
     have Hb9 : Hid (Below w.heap.size w w9) := lh ⟨hM9.os.trans Hwi.out.os, hM9.tape.trans Hwi.out.tape, hM9.output.trans Hwi.out.output, Nat.le_trans hzw hM9.size, fun k hk => (hM9.block k (by omega) (by omega)).trans (Hwi.out.block k hk)⟩;have HJ10 := lh (hJ9.more (n1 := w9.heap.size) hM9.size (Nat.le_refl _));have HF10 := lh (hC9.blk HF9.out);have Hσr := lh hσr;have hz9 := Hb9.out.size;clear hJ9 hM9 hC9 hσ9 hσr u0 u1 lU;have x0 := HJ10.out.box;have lx := World.block_lt_of_cell? w9 _ x0;go_wp2;clear x0 lx
     go_loopg [15, 70] r (fun gh s15 s70 wx => ∃ (k : Nat) (css : List (List Value)), k ≤ r ∧ gh = r - k ∧ s70 = .int .i64 (k : Int) ∧ Hid (Built rpInt.slice w9.heap.size 26 (fun b => b < w9.heap.size) wx s15 (q8v C r k) css) ∧ Hid (Below w9.heap.size w9 wx))
     case atStart => exact ⟨0, [], Nat.zero_le _, rfl, rfl, lh (Built.nil _ _ _ _ _ (fun _ h => h)), lh (Below.refl _ _)⟩
     case round =>
      obtain ⟨k, css, hk, rfl, rfl, Hbu, Hbel⟩ := hrel;have hzq := Hbel.out.size;obtain ⟨A6, n6, hs6⟩ := qj Hbu.out.own;subst hs6;have k1 := nnn k;have Hll := lh (qha C r k)
      by_cases hlt : k < r
      ·have k2 : (k : Int) < (r : Int) := by omega
       have hJk := HJ10.out.below Hbel.out;have x0 := hJk.row k hlt;have lx := World.block_lt_of_cell? wr _ x0;have HSk := lh (hJk.sets k hlt);have Hst := lh (qeb C r k);generalize q8v C r k = LT at *;rw [Hll.out] at Hbu;rw [Hll.out];clear hJk
       go_wp2_with fail
       refine q7e _ _ r _ HSk.out (Hσr.out k) _ (fun w5 v5 hb5 hown5 => ?_);rw [Hrow.out] at hown5;generalize rowX (C (k : Int)) r = Lk' at *;obtain ⟨A5, c5, rfl⟩ := qj hown5;have Ho5 := lh hown5;have hlr := Hbu.out.own.lt;have Hlr := lh hlr;have hz5 := hb5.size;have HBu5 := lh ((Hbu.out.below hb5 (Nat.le_refl _)).alloc (Obj.cells #[.slice A5 Lk'.length c5] 26));have Hap : Hid (Apart rpInt.slice (fun b => b < w9.heap.size) (w5.alloc (Obj.cells #[.slice A5 Lk'.length c5] 26)) (.slice A6 k n6) Lk' [.slice A5 Lk'.length c5]) := lh (Apart.of_only (base := wr.heap.size) ⟨_, rfl, q4n (q4v (Ho5.out.alloc _)) (by rw [q47]; exact Nat.le_refl _)⟩ (fun k (h : k < w9.heap.size) => by omega) (fun g hg => by have := (Hlr.out g hg).2; omega));have Hbel5 := btt Hbel hb5 hzq;clear hb5 hown5 hlr x0 lx;have hwz5 : w9.heap.size ≤ w5.heap.size := by omega
       go_wp2_with (at_builtin; refine wpList_append_lies _ rfl _ _ 87 rfl w9.heap.size 26 iC _ 1 24 Tryz.underlying87 hiC zC0 zC1 zC2 rfl (by decide) (.slice A6 k n6) k css.flatten rfl (by have := HBu5.out.own; rw [Hll.out] at this; exact this) ⟨w5.heap.size, 0, none⟩ 1 1 [.slice A5 Lk'.length c5] rfl rfl ?_ ?_ (by decide) ?_ ?_ ?_ _ rfl ?_)
       any_goals (first | with_reducible exact World.news_of_block (cs := #[.slice A5 Lk'.length c5]) (t := 26) (fr := (0, 0)) (heap_alloc_new _ _) | (simp [Value.oneCell']; done) | (unfold maxLen; omega) | omega | (simp; done) | (simp; omega))
       intro gb cap w7' hown9 hgrow9 hat9 hlt9;have HB9 := lh (HBu5.out.push hown9 (by rw [Hll.out]) hgrow9 (by simpa using hat9) Hap.out);have Hbel9 := lh ((Hbel5.out.alloc hwz5 _).trans ((Grew.of_grown hgrow9).below (B := w9.heap.size) (fun j hj e => by have := (Hlr.out j e).1; omega) (by simp; omega)));clear hown9 hgrow9 hat9 hlt9;go_wp2
       go_roundg (r - (k + 1))
       case measure => omega
       case rel => exact ⟨k + 1, _, by omega, rfl, by go_num, by rw [Hst.out]; exact HB9, Hbel9⟩
      ·obtain rfl : k = r := by omega
       have k2 : ¬ ((k : Int) < (k : Int)) := by omega
       have hF := (Hbel.out.block _ (qa HF10.out)).trans HF10.out;have hlF : w.heap.size + 1 < w9.heap.size := qa HF10.out;obtain ⟨f0, f1, lF⟩ := cbl hF;have z0 := fzz hF 0;have z1 := fzz hF 1;have hs1 := Hbu.out.SLF (b := w9.heap.size) (B := wr.heap.size) (fun k hk => hk) (Nat.le_refl _) (Nat.le_refl _);have hs2 := ((hs1.setCell ⟨w.heap.size + 1, 0, none⟩ hlF (.int .i64 0)).setCell ⟨w.heap.size + 1, 1, none⟩ hlF (.int .i64 0)).more (b' := w.heap.size) (B' := ((wr.setCell ⟨w.heap.size + 1, 0, none⟩ (.int .i64 0)).setCell ⟨w.heap.size + 1, 1, none⟩ (.int .i64 0)).heap.size) (by omega) (by simp [World.setCell]);have hfin := HR.out _ _ (q02 (Hb9.out.trans (Hbel.out.mono hz9)) [(⟨w.heap.size + 1, 0, none⟩, .int .i64 0), (⟨w.heap.size + 1, 1, none⟩, .int .i64 0)] (by simp)) hs2;have Hfin := lh hfin;clear hfin hs1 hs2 hF hlF;rw [Hll.out] at Hfin ⊢;go_wp2;refine bodyPost_ret (v := .tuple #[.slice A6 k n6, (.agg #[.int .i64 (((0 : Int), (0 : Int))).1, .int .i64 (((0 : Int), (0 : Int))).2])]) (by simp [results, Tryz.results37, go_sem, f0, f1, lF]) rfl ?_;exact Hfin.out
end Go.Proofs.YtdanebboiekieaaGreatDoor
