/- A stable sort of ints: merging in place, by induction. A stable sort of ints: sorted blocks; the plain law. A stable sort of ints: rows of sorted blocks. A stable sort of ints: the outer loops; the plain law. A stable sort of ints: the outer sort; the walk. colour.Of: plain facts: own rows as rows of ints, orders that agree, what the painter paints. clash.Of, where there is a fault. -/
import Derived.Test.YtdanebboiekieaaGreatDoorQ37
import Derived.Test.YtdanebboiekieaaGreatDoorQ01
import Derived.Test.YtdanebboiekieaaGreatDoorRows
import Derived.IntWalk
import Derived.BigRegion
import Derived.BigQuiet
import Derived.Outline
import Derived.Deep.LoopGhost
import Derived.Deep.RegionLaw
import Derived.Deep.CutBlock
import Derived.Deep.DeepCutAuto
import Derived.Test.YtdanebboiekieaaGreatDoorQ32
import Derived.Test.YtdanebboiekieaaGreatDoorQ25
namespace Go.Proofs.YtdanebboiekieaaGreatDoor
open Go.RowKit
set_option linter.unusedSimpArgs false
set_option linter.unusedVariables false

theorem symM_calls (S : List Int) (g nn cp bx gs n c : Nat) (hn1 : n ≤ 1000) : ∀ k, SymSpec S g nn cp bx gs n c k
 | 0 => fun P L M Q T a m b hk hSy hL hM hn hD w hC hI R hR => by
   have h1 := hSy.lm
   have h2 := hSy.lb
   omega
 | k + 1 => fun P L M Q T a m b hk hSy hL hM hn hD w hC hI R hR => by
   by_cases h1 : L.length = 1
   ·obtain ⟨x, rfl⟩ := List.length_eq_one_iff.1 h1
    exact symA_calls S g nn cp bx gs n c a m b P M Q T x hSy hM hn hn1 hD w hC hI R hR
   ·by_cases h2 : M.length = 1
    ·obtain ⟨y, rfl⟩ := List.length_eq_one_iff.1 h2
     exact symB_calls S g nn cp bx gs n c a m b P L Q T y hSy (by omega) hn hn1 hD w hC hI R hR
    ·exact symG_calls S g nn cp bx gs n c k (symM_calls S g nn cp bx gs n c hn1 k) hn1 P L M Q T a m b hk hSy (by omega) (by omega) hn hD w hC hI R hR
end Go.Proofs.YtdanebboiekieaaGreatDoor
namespace Go.Proofs.YtdanebboiekieaaGreatDoor
open Go.RowKit
set_option linter.unusedSimpArgs false
set_option linter.unusedVariables false

theorem less_cut {D : List Int} (hs : D.Pairwise (· < ·)) (i j m : Nat) (h : i ≤ j) : LessL ((D.take j).drop i) ((D.drop j).take m) := fun x hx y hy => by
 have h1 : x ∈ D.take j := List.mem_of_mem_drop hx
 have h2 : y ∈ D.drop j := List.mem_of_mem_take hy
 rw [← List.take_append_drop j D] at hs
 exact (List.pairwise_append.1 hs).2.2 x h1 y h2
theorem sortB_sortW (S D : List Int) : SortB S (sortW (wtS S) D) := by
 have := List.pairwise_mergeSort (le := before (wtS S)) (fun a b c => before_trans _ a b c) (fun a b => before_total _ a b) D
 exact this
theorem sym_of {S P A B Q : List Int} {a m b : Nat} (hle : LessL A B) (h1 : P.length = a) (h2 : a + A.length = m) (h3 : m + B.length = b) : Sym S P (sortW (wtS S) A) (sortW (wtS S) B) Q a m b (P ++ (sortW (wtS S) A ++ (sortW (wtS S) B ++ Q))) :=
 ⟨rfl, h1, by rw [(sortW_perm _ _).length_eq]; exact h2, by rw [(sortW_perm _ _).length_eq]; exact h3, sortB_sortW S A, sortB_sortW S B, fun x hx y hy => hle x ((sortW_perm _ _).mem_iff.1 hx) y ((sortW_perm _ _).mem_iff.1 hy)⟩
theorem merged_is {S A B D : List Int} (hs : SortB S D) (hp : D.Perm (sortW (wtS S) A ++ sortW (wtS S) B)) : D = sortW (wtS S) (A ++ B) :=
 sortW_unique (hp.trans ((sortW_perm _ A).append (sortW_perm _ B))) hs
end Go.Proofs.YtdanebboiekieaaGreatDoor
namespace Go.Proofs.YtdanebboiekieaaGreatDoor
open Go.RowKit
set_option linter.unusedSimpArgs false
set_option linter.unusedVariables false

/-- Sorted blocks of s numbers. -/
def blks (S : List Int) (s : Nat) : Nat → List Int → List Int
 | 0, D => D
 | k + 1, D => sortW (wtS S) (D.take s) ++ blks S s k (D.drop s)
theorem blks_nil (S : List Int) (s k : Nat) : blks S s k [] = [] := by
 induction k with
 | zero => rfl
 | succ k ih =>
   rw [blks, List.take_nil, List.drop_nil, ih, sortW_nil]
   rfl
theorem blks_len (S : List Int) (s : Nat) : ∀ k D, (blks S s k D).length = D.length
 | 0, D => rfl
 | k + 1, D => by
   rw [blks, List.length_append, (sortW_perm _ _).length_eq, blks_len S s k, ← List.length_append, List.take_append_drop]
theorem blks_one (S : List Int) (s k : Nat) {D : List Int} (h : D.length ≤ s) : blks S s (k + 1) D = sortW (wtS S) D := by
 rw [blks, List.take_of_length_le h, List.drop_eq_nil_of_le h, blks_nil, List.append_nil]
/-- More blocks than there are numbers change nothing. -/
theorem blks_more (S : List Int) (s : Nat) (hs : 0 < s) : ∀ (k j : Nat) (D : List Int), D.length ≤ k * s → D.length ≤ j * s → blks S s k D = blks S s j D
 | 0, j, D, h1, _ => by
   have : D = [] := List.eq_nil_of_length_eq_zero (by omega)
   subst this
   rw [blks_nil, blks_nil]
 | k + 1, 0, D, _, h2 => by
   have : D = [] := List.eq_nil_of_length_eq_zero (by omega)
   subst this
   rw [blks_nil, blks_nil]
 | k + 1, j + 1, D, h1, h2 => by
   rw [blks, blks, blks_more S s hs k j (D.drop s) (by rw [List.length_drop, Nat.succ_mul] at *; omega) (by rw [List.length_drop, Nat.succ_mul] at *; omega)]
end Go.Proofs.YtdanebboiekieaaGreatDoor
namespace Go.Proofs.YtdanebboiekieaaGreatDoor
open Go.RowKit
set_option linter.unusedSimpArgs false
set_option linter.unusedVariables false

/-- The first loop on its way: a numbers stand in sorted blocks of s. -/
def InsL (S : List Int) (s : Nat) (D : List Int) (a k : Nat) (T : List Int) : Prop := ∃ P D', T = P ++ D' ∧ P.length = a ∧ D' = D.drop a ∧ P ++ blks S s k D' = blks S s (D.length + 1) D
theorem insL_start {S : List Int} {s : Nat} {D : List Int} : InsL S s D 0 (D.length + 1) D := ⟨[], D, rfl, rfl, rfl, rfl⟩
theorem insL_step {S : List Int} {s : Nat} {D T : List Int} {a k : Nat} (hD : D.Pairwise (· < ·)) (h : InsL S s D a (k + 1) T) (hl : a + s ≤ D.length) :
 ∃ P A Q, T = P ++ (A ++ Q) ∧ P.length = a ∧ A.length = s ∧ A.Pairwise (· < ·) ∧ (∀ v ∈ A, v ∈ D) ∧ InsL S s D (a + s) k (P ++ (sortW (wtS S) A ++ Q)) := by
 obtain ⟨P, D', rfl, h1, h2, h3⟩ := h
 have hdl : D'.length = D.length - a := by rw [h2, List.length_drop]
 have hs' : D'.Pairwise (· < ·) := by rw [h2]; exact hD.drop
 refine ⟨P, D'.take s, D'.drop s, by rw [List.take_append_drop], h1, by rw [List.length_take]; omega, hs'.take, fun v hv => ?_, ?_⟩
 ·have := List.mem_of_mem_take hv
  rw [h2] at this
  exact List.mem_of_mem_drop this
 ·refine ⟨P ++ sortW (wtS S) (D'.take s), D'.drop s, by rw [List.append_assoc], ?_, by rw [h2, List.drop_drop], ?_⟩
  ·rw [List.length_append, (sortW_perm _ _).length_eq, List.length_take]
   omega
  ·rw [List.append_assoc]
   exact h3
theorem insL_last {S : List Int} {s : Nat} {D T : List Int} {a k : Nat} (hD : D.Pairwise (· < ·)) (h : InsL S s D a (k + 1) T) (ha : a ≤ D.length) (hl : D.length ≤ a + s) :
 ∃ P A, T = P ++ (A ++ []) ∧ P.length = a ∧ a + A.length = D.length ∧ A.Pairwise (· < ·) ∧ (∀ v ∈ A, v ∈ D) ∧ P ++ (sortW (wtS S) A ++ []) = blks S s (D.length + 1) D := by
 obtain ⟨P, D', rfl, h1, h2, h3⟩ := h
 have hdl : D'.length = D.length - a := by rw [h2, List.length_drop]
 have hs' : D'.Pairwise (· < ·) := by rw [h2]; exact hD.drop
 refine ⟨P, D', by rw [List.append_nil], h1, by omega, hs', fun v hv => ?_, ?_⟩
 ·rw [h2] at hv
  exact List.mem_of_mem_drop hv
 ·rw [← h3, blks_one S s k (by omega), List.append_nil]
/-- The inner merging: a numbers stand in blocks of 2 s, the others in blocks of s. -/
def MrgL (S : List Int) (s : Nat) (D : List Int) (a k : Nat) (T : List Int) : Prop := ∃ P D', T = P ++ blks S s (2 * k) D' ∧ P.length = a ∧ D' = D.drop a ∧ P ++ blks S (2 * s) k D' = blks S (2 * s) (D.length + 1) D
theorem mrg_start {S : List Int} {s : Nat} (hs : 0 < s) {D : List Int} : MrgL S s D 0 (D.length + 1) (blks S s (D.length + 1) D) := by
 refine ⟨[], D, ?_, rfl, rfl, rfl⟩
 rw [List.nil_append]
 exact blks_more S s hs _ _ D (Nat.le_trans (by omega) (Nat.le_mul_of_pos_right _ hs)) (Nat.le_trans (by omega) (Nat.le_mul_of_pos_right _ hs))
theorem take_add_of {α : Type} (D : List α) (s t : Nat) : D.take (s + t) = D.take s ++ (D.drop s).take t := by
 rw [List.take_add]
theorem mrg_step {S : List Int} {s : Nat} {D T : List Int} {a k : Nat} (hD : D.Pairwise (· < ·)) (h : MrgL S s D a (k + 1) T) (hl : a + 2 * s ≤ D.length) :
 ∃ P A B Q, T = P ++ (sortW (wtS S) A ++ (sortW (wtS S) B ++ Q)) ∧ P.length = a ∧ A.length = s ∧ B.length = s ∧ LessL A B ∧ (∀ v ∈ A ++ B, v ∈ D) ∧ MrgL S s D (a + 2 * s) k (P ++ (sortW (wtS S) (A ++ B) ++ Q)) := by
 obtain ⟨P, D', rfl, h1, h2, h3⟩ := h
 have hdl : D'.length = D.length - a := by rw [h2, List.length_drop]
 have hs' : D'.Pairwise (· < ·) := by rw [h2]; exact hD.drop
 refine ⟨P, D'.take s, (D'.drop s).take s, blks S s (2 * k) (D'.drop (2 * s)), ?_, h1, by rw [List.length_take]; omega, by rw [List.length_take, List.length_drop]; omega, ?_, ?_, ?_⟩
 ·rw [show 2 * (k + 1) = 2 * k + 1 + 1 by omega, blks, blks, List.drop_drop, show s + s = 2 * s by omega]
 ·have := less_cut hs' 0 s s (Nat.zero_le _)
  simpa using this
 ·intro v hv
  have : v ∈ D' := by
   rcases List.mem_append.1 hv with h | h
   ·exact List.mem_of_mem_take h
   ·exact List.mem_of_mem_drop (List.mem_of_mem_take h)
  rw [h2] at this
  exact List.mem_of_mem_drop this
 ·refine ⟨P ++ sortW (wtS S) (D'.take (2 * s)), D'.drop (2 * s), ?_, ?_, by rw [h2, List.drop_drop], ?_⟩
  ·rw [show 2 * s = s + s by omega, take_add_of, List.append_assoc]
  ·rw [List.length_append, (sortW_perm _ _).length_eq, List.length_take]
   omega
  ·rw [List.append_assoc]
   exact h3
theorem mrg_last {S : List Int} {s : Nat} {D T : List Int} {a k : Nat} (hD : D.Pairwise (· < ·)) (h : MrgL S s D a (k + 1) T) (hl : D.length < a + 2 * s) (hm : a + s < D.length) :
 ∃ P A B, T = P ++ (sortW (wtS S) A ++ (sortW (wtS S) B ++ [])) ∧ P.length = a ∧ A.length = s ∧ a + s + B.length = D.length ∧ LessL A B ∧ (∀ v ∈ A ++ B, v ∈ D) ∧ P ++ (sortW (wtS S) (A ++ B) ++ []) = blks S (2 * s) (D.length + 1) D := by
 obtain ⟨P, D', rfl, h1, h2, h3⟩ := h
 have hdl : D'.length = D.length - a := by rw [h2, List.length_drop]
 have hs' : D'.Pairwise (· < ·) := by rw [h2]; exact hD.drop
 have e2 : (D'.drop s).take s = D'.drop s := List.take_of_length_le (by rw [List.length_drop]; omega)
 have e3 : D'.drop (s + s) = [] := List.drop_eq_nil_of_le (by omega)
 refine ⟨P, D'.take s, D'.drop s, ?_, h1, by rw [List.length_take]; omega, by rw [List.length_drop]; omega, ?_, ?_, ?_⟩
 ·rw [show 2 * (k + 1) = 2 * k + 1 + 1 by omega, blks, blks, List.drop_drop, e2, e3, blks_nil]
 ·have := less_cut hs' 0 s s (Nat.zero_le _)
  rw [e2] at this
  simpa using this
 ·intro v hv
  rw [List.take_append_drop, h2] at hv
  exact List.mem_of_mem_drop hv
 ·rw [List.take_append_drop, ← h3, blks_one S (2 * s) k (by omega), List.append_nil]
theorem mrg_none {S : List Int} {s : Nat} {D T : List Int} {a k : Nat} (h : MrgL S s D a (k + 1) T) (hm : D.length ≤ a + s) : T = blks S (2 * s) (D.length + 1) D := by
 obtain ⟨P, D', rfl, h1, h2, h3⟩ := h
 have hdl : D'.length = D.length - a := by rw [h2, List.length_drop]
 rw [← h3, show 2 * (k + 1) = 2 * k + 1 + 1 by omega, blks_one S s (2 * k + 1) (by omega), blks_one S (2 * s) k (by omega)]
end Go.Proofs.YtdanebboiekieaaGreatDoor
namespace Go.Proofs.YtdanebboiekieaaGreatDoor
open Go.RowKit
set_option linter.unusedSimpArgs false
set_option linter.unusedVariables false

theorem insL_len {S : List Int} {s : Nat} {D T : List Int} {a k : Nat} (h : InsL S s D a k T) (ha : a ≤ D.length) : T.length = D.length := by
 obtain ⟨P, D', rfl, h1, h2, h3⟩ := h
 rw [List.length_append, h2, List.length_drop]
 omega
theorem mrgL_len {S : List Int} {s : Nat} {D T : List Int} {a k : Nat} (h : MrgL S s D a k T) (ha : a ≤ D.length) : T.length = D.length := by
 obtain ⟨P, D', rfl, h1, h2, h3⟩ := h
 rw [List.length_append, blks_len, h2, List.length_drop]
 omega
set_option maxRecDepth 100000 in
set_option maxHeartbeats 8000000 in
theorem stable_calls (S : List Int) (g nn cp bx gs n c : Nat) (D : List Int) (hn : D.length = n) (hn1 : n ≤ 1000) (hs : D.Pairwise (· < ·)) (hD : ∀ x ∈ D, 0 ≤ x ∧ x < (nn : Int)) (w : World) (hC : CmpN S g nn cp bx gs w) (hI : IntAt gs D w) (R : Ending → World → Prop)
 (hR : ∀ w', IntI gs (sortW (wtS S) D) w w' → R (.returned (.tuple #[])) w') :
 Calls Tryz.prog 79 #[.slice (some ⟨gs, 0, none⟩) n c, .int .i64 (n : Int), .func (.func 44) #[] #[.pointer (some ⟨bx, 0, none⟩)]] w R := by
 have HR := Lib.hid hR
 have HC := Lib.hid hC
 have HD := Lib.hid hD
 have Hs := Lib.hid hs
 have Hn := Lib.hid hn
 have H0 : Hid (InsL S 20 D 0 (n + 1) D) := Lib.hid (by rw [← hn]; exact insL_start)
 have HI0 := Lib.hid (IntI.refl hI)
 clear hR hC hD hs hI hn
 go_enter Tryz.func79, Tryz.ntmps79
 go_wp2
 go_loopg [7, 8] n (fun gh va vb wr => ∃ (a b k : Nat) (T : List Int), a ≤ n ∧ b = a + 20 ∧ n ≤ a + k ∧ gh = n - a ∧ va = .int .i64 a ∧ vb = .int .i64 b ∧ Hid (InsL S 20 D a (k + 1) T) ∧ Hid (IntI gs T w wr))
 case atStart => exact ⟨0, 20, n, D, Nat.zero_le _, rfl, by omega, rfl, rfl, rfl, H0, HI0⟩
 case round =>
  clear H0 HI0
  obtain ⟨a, b, k, T, han, hb, hak, hg, rfl, rfl, hL, hT⟩ := hrel
  have Hg := Lib.hid hg
  have Hb := Lib.hid hb
  clear hg hb
  by_cases hlt : b ≤ n
  ·have k1 : (b : Int) ≤ (n : Int) := by omega
   obtain ⟨k', rfl⟩ : ∃ k', k = k' + 1 := ⟨k - 1, by have := Hb.out; omega⟩
   have hTl := insL_len hL.out (by rw [Hn.out]; exact han)
   obtain ⟨P, A, Q, hTe, hP, hA, hAs, hAD, hL2⟩ := insL_step Hs.out hL.out (by rw [Hn.out, ← Hb.out]; exact hlt)
   rw [hTe] at hT hTl
   have hQ : P.length + A.length + Q.length = n := by rw [← Hn.out, ← hTl]; simp; omega
   have HT := Lib.hid hT.out
   have HL2 := Lib.hid hL2
   have HP := Lib.hid (And.intro hP (And.intro hA (And.intro hAs (And.intro hAD hQ))))
   clear hTe hP hA hAs hAD hL2 hL hT hTl hQ
   go_wp2_with fail
   refine insF_calls S g nn cp bx gs n c a b P A Q HP.out.1 (by have := HP.out; have := Hb.out; omega) HP.out.2.2.2.2 hn1 HP.out.2.2.1 (fun x hx => HD.out x (HP.out.2.2.2.1 x hx)) _ (HC.out.keep HT.out.2.2) HT.out.1 _ (fun w1 h1 => ?_)
   have HT1 := Lib.hid (HT.out.trans h1)
   clear h1
   go_wp2
   go_roundg (n - b)
   case measure => have := Hg.out; have := Hb.out; omega
   case rel => exact ⟨b, b + 20, k', _, hlt, rfl, by have := Hb.out; omega, rfl, rfl, by go_num, by rw [Hb.out]; exact HL2, HT1⟩
  ·have k1 : ¬ (b : Int) ≤ (n : Int) := by omega
   have hTl := insL_len hL.out (by rw [Hn.out]; exact han)
   obtain ⟨P, A, hTe, hP, hA, hAs, hAD, hL2⟩ := insL_last Hs.out hL.out (by rw [Hn.out]; exact han) (by rw [Hn.out]; have := Hb.out; omega)
   rw [hTe] at hT hTl
   have HT := Lib.hid hT.out
   have HL2 := Lib.hid hL2
   have HP := Lib.hid (And.intro hP (And.intro hA (And.intro hAs hAD)))
   clear hTe hP hA hAs hAD hL2 hL hT hTl
   go_wp2_with fail
   refine insF_calls S g nn cp bx gs n c a n P A [] HP.out.1 (by have := HP.out; have := Hn.out; omega) (by have := HP.out; have := Hn.out; simp; omega) hn1 HP.out.2.2.1 (fun x hx => HD.out x (HP.out.2.2.2 x hx)) _ (HC.out.keep HT.out.2.2) HT.out.1 _ (fun w1 h1 => ?_)
   have HT1 : Hid (IntI gs (blks S 20 (n + 1) D) w w1) := Lib.hid (by
    have := HT.out.trans h1
    rw [HL2.out, Hn.out] at this
    exact this)
   clear h1 HL2 HT HP Hg Hb hak han hlt k1
   go_wp2
   go_loopg [6] 1980 (fun gh vs wr => ∃ (s : Nat), 0 < s ∧ s ≤ 2000 ∧ gh = 2000 - s ∧ vs = .int .i64 s ∧ Hid (IntI gs (blks S s (n + 1) D) w wr))
   case atStart => exact ⟨20, by omega, by omega, rfl, rfl, HT1⟩
   case round =>
    clear HT1
    obtain ⟨s, hs0, hs1, hg, rfl, hT⟩ := hrel
    have Hg := Lib.hid hg
    clear hg
    by_cases hsn : s < n
    ·have k1 : (s : Int) < (n : Int) := by omega
     obtain ⟨d, hd⟩ : ∃ d : Nat, d = 2 * s := ⟨_, rfl⟩
     have e1 : (2 : Int) * (s : Int) = (d : Int) := by omega
     have hd1 : d ≤ 2000 := by omega
     have Hd := Lib.hid hd
     have H1 : Hid (MrgL S s D 0 (n + 1) (blks S s (n + 1) D)) := Lib.hid (by rw [← Hn.out]; exact mrg_start hs0)
     clear hd
     go_wp2
     go_loopg [7, 8] n (fun gh va vb wr => ∃ (a b k : Nat) (T : List Int), a ≤ n ∧ b = a + d ∧ n ≤ a + k ∧ gh = n - a ∧ va = .int .i64 a ∧ vb = .int .i64 b ∧ Hid (MrgL S s D a (k + 1) T) ∧ Hid (IntI gs T w wr))
     case atStart => exact ⟨0, d, n, _, Nat.zero_le _, by omega, by omega, rfl, rfl, by go_num, H1, hT⟩
     case round =>
      clear H1 hT
      obtain ⟨a, b, k, T, han, hb, hak, hg, rfl, rfl, hL, hT⟩ := hrel
      have Hg2 := Lib.hid hg
      have Hb := Lib.hid hb
      clear hg hb
      obtain ⟨m, hm⟩ : ∃ m : Nat, m = a + s := ⟨_, rfl⟩
      have e2 : (a : Int) + (s : Int) = (m : Int) := by omega
      have Hm := Lib.hid hm
      clear hm
      by_cases hlt : b ≤ n
      ·have k2 : (b : Int) ≤ (n : Int) := by omega
       obtain ⟨k', rfl⟩ : ∃ k', k = k' + 1 := ⟨k - 1, by have := Hb.out; have := Hd.out; omega⟩
       have hTl := mrgL_len hL.out (by rw [Hn.out]; exact han)
       obtain ⟨P, A, B, Q, hTe, hP, hA, hB, hle, hAD, hL2⟩ := mrg_step Hs.out hL.out (by rw [Hn.out, ← Hd.out, ← Hb.out]; exact hlt)
       rw [hTe] at hT hTl
       have lA : (sortW (wtS S) A).length = s := by rw [(sortW_perm _ _).length_eq]; exact hA
       have lB : (sortW (wtS S) B).length = s := by rw [(sortW_perm _ _).length_eq]; exact hB
       have hQ : b + Q.length = n := by
        have := Hb.out
        have := Hd.out
        have := Hn.out
        simp only [List.length_append, lA, lB] at hTl
        omega
       have hDD : ∀ v ∈ sortW (wtS S) A ++ sortW (wtS S) B, 0 ≤ v ∧ v < (nn : Int) := fun v hv => by
        refine HD.out v (hAD v ?_)
        rcases List.mem_append.1 hv with h | h
        ·exact List.mem_append_left _ ((sortW_perm _ _).mem_iff.1 h)
        ·exact List.mem_append_right _ ((sortW_perm _ _).mem_iff.1 h)
       have hsy := sym_of (S := S) (P := P) (Q := Q) (a := a) (m := m) (b := b) hle hP (by have := Hm.out; omega) (by have := Hm.out; have := Hb.out; have := Hd.out; omega)
       have HSy := Lib.hid hsy
       have HT := Lib.hid hT.out
       have HL2 := Lib.hid hL2
       have HP := Lib.hid (And.intro lA (And.intro lB (And.intro hDD hQ)))
       clear hTe hP hA hB hle hAD hL2 hL hT hTl hQ hDD hsy lA lB
       go_wp2_with fail
       refine symM_calls S g nn cp bx gs n c hn1 _ P _ _ Q _ a m b (Nat.le_refl _) HSy.out (by rw [HP.out.1]; exact hs0) (by rw [HP.out.2.1]; exact hs0) HP.out.2.2.2 HP.out.2.2.1 _ (HC.out.keep HT.out.2.2) HT.out.1 _ (fun w2 D2 h1 h2 h3 => ?_)
       have HT2 : Hid (IntI gs (P ++ (sortW (wtS S) (A ++ B) ++ Q)) w w2) := Lib.hid (by
        rw [← merged_is h1 h2]
        exact HT.out.trans h3)
       clear h1 h2 h3
       go_wp2
       go_roundg (n - b)
       case measure => have := Hg2.out; have := Hb.out; have := Hd.out; omega
       case rel => exact ⟨b, b + d, k', _, hlt, rfl, by have := Hb.out; have := Hd.out; omega, rfl, rfl, by go_num, by rw [Hb.out, Hd.out]; exact HL2, HT2⟩
      ·have k2 : ¬ (b : Int) ≤ (n : Int) := by omega
       have e3 : (s : Int) * 2 = (d : Int) := by omega
       by_cases hmn : m < n
       ·have k3 : (m : Int) < (n : Int) := by omega
        have hTl := mrgL_len hL.out (by rw [Hn.out]; exact han)
        obtain ⟨P, A, B, hTe, hP, hA, hB, hle, hAD, hL2⟩ := mrg_last Hs.out hL.out (by rw [Hn.out, ← Hd.out, ← Hb.out]; omega) (by rw [Hn.out, ← Hm.out]; exact hmn)
        rw [hTe] at hT hTl
        have lA : (sortW (wtS S) A).length = s := by rw [(sortW_perm _ _).length_eq]; exact hA
        have lB : m + (sortW (wtS S) B).length = n := by rw [(sortW_perm _ _).length_eq, Hm.out, ← Hn.out]; exact hB
        have hDD : ∀ v ∈ sortW (wtS S) A ++ sortW (wtS S) B, 0 ≤ v ∧ v < (nn : Int) := fun v hv => by
         refine HD.out v (hAD v ?_)
         rcases List.mem_append.1 hv with h | h
         ·exact List.mem_append_left _ ((sortW_perm _ _).mem_iff.1 h)
         ·exact List.mem_append_right _ ((sortW_perm _ _).mem_iff.1 h)
        have hsy := sym_of (S := S) (P := P) (Q := []) (a := a) (m := m) (b := n) hle hP (by have := Hm.out; omega) (by have := Hm.out; have := Hn.out; omega)
        have HSy := Lib.hid hsy
        have HT := Lib.hid hT.out
        have HL2 := Lib.hid hL2
        have HP := Lib.hid (And.intro lA (And.intro lB hDD))
        clear hTe hP hA hB hle hAD hL2 hL hT hTl hDD hsy lA lB
        go_wp2_with fail
        refine symM_calls S g nn cp bx gs n c hn1 _ P _ _ [] _ a m n (Nat.le_refl _) HSy.out (by rw [HP.out.1]; exact hs0) (by have := HP.out.2.1; omega) (by simp) HP.out.2.2 _ (HC.out.keep HT.out.2.2) HT.out.1 _ (fun w2 D2 h1 h2 h3 => ?_)
        have HT2 : Hid (IntI gs (blks S d (n + 1) D) w w2) := Lib.hid (by
         have h4 := HT.out.trans h3
         rw [merged_is h1 h2, HL2.out, Hn.out, ← Hd.out] at h4
         exact h4)
        clear h1 h2 h3
        go_wp2
        go_roundg (2000 - d)
        case measure => have := Hg.out; have := Hd.out; omega
        case rel => exact ⟨d, by have := Hd.out; omega, hd1, rfl, by go_num, HT2⟩
       ·have k3 : ¬ (m : Int) < (n : Int) := by omega
        have HT2 : Hid (IntI gs (blks S d (n + 1) D) w wr) := Lib.hid (by
         have h4 := hT.out
         rw [mrg_none hL.out (by rw [Hn.out, ← Hm.out]; omega), Hn.out, ← Hd.out] at h4
         exact h4)
        clear hT hL
        go_wp2
        go_roundg (2000 - d)
        case measure => have := Hg.out; have := Hd.out; omega
        case rel => exact ⟨d, by have := Hd.out; omega, hd1, rfl, by go_num, HT2⟩
    ·have k1 : ¬ (s : Int) < (n : Int) := by omega
     have hfin := Lib.hid (HR.out _ (by
      have := hT.out
      rw [blks_one S s n (by rw [Hn.out]; omega)] at this
      exact this))
     clear hT
     go_wp2
     all_goals first | exact hfin.out | (go_end0; exact hfin.out) | (refine bodyPost_ret (results_none rfl _ _ _) rfl ?_; first | done | exact hfin.out)
set_option maxHeartbeats 1000000 in
theorem sortS_calls (S : List Int) (g nn cp bx gs n c : Nat) (D : List Int) (hn : D.length = n) (hn1 : n ≤ 1000) (hs : D.Pairwise (· < ·)) (hD : ∀ x ∈ D, 0 ≤ x ∧ x < (nn : Int)) (w : World) (hC : CmpN S g nn cp bx gs w) (hI : IntAt gs D w) (R : Ending → World → Prop)
 (hR : ∀ w', IntI gs (sortW (wtS S) D) w w' → R (.returned (.tuple #[])) w') :
 Calls Tryz.prog 43 #[.slice (some ⟨gs, 0, none⟩) n c, .func (.func 44) #[] #[.pointer (some ⟨bx, 0, none⟩)]] w R := by
 have HR := Lib.hid hR
 have HC := Lib.hid hC
 have HI := Lib.hid hI
 have HD := Lib.hid hD
 have Hn := Lib.hid hn
 clear hR hC hI hD hn
 go_enter Tryz.func43, Tryz.ntmps43
 go_wp2_with fail
 refine stable_calls S g nn cp bx gs n c D Hn.out hn1 hs HD.out _ HC.out HI.out _ (fun w1 h1 => ?_)
 have hfin := Lib.hid (HR.out _ h1)
 clear h1
 go_wp2
 all_goals first | exact hfin.out | (go_end0; exact hfin.out) | (refine bodyPost_ret (results_none rfl _ _ _) rfl ?_; first | done | exact hfin.out)
/-- Of no registers. -/
theorem insNil_calls (c : Nat) (bx : Nat) (w : World) (R : Ending → World → Prop) (hR : ∀ w', Below w.heap.size w w' → R (.returned (.tuple #[])) w') :
 Calls Tryz.prog 102 #[.slice none 0 c, .int .i64 0, .int .i64 0, .func (.func 44) #[] #[.pointer (some ⟨bx, 0, none⟩)]] w R := by
 have hf := Lib.hid (hR _ (Below.refl _ _))
 clear hR
 go_enter Tryz.func102, Tryz.ntmps102
 go_wp2
 go_loopg [8] 0 (fun gh vi wr => gh = 0 ∧ vi = .int .i64 1 ∧ wr = w)
 case atStart => exact ⟨rfl, rfl, rfl⟩
 case round =>
  obtain ⟨rfl, rfl, rfl⟩ := hrel
  go_wp2
  all_goals first | exact hf.out | (go_end0; exact hf.out) | (refine bodyPost_ret (results_none rfl _ _ _) rfl ?_; first | done | exact hf.out)
theorem stableNil_calls (c : Nat) (bx : Nat) (w : World) (R : Ending → World → Prop) (hR : ∀ w', Below w.heap.size w w' → R (.returned (.tuple #[])) w') :
 Calls Tryz.prog 79 #[.slice none 0 c, .int .i64 0, .func (.func 44) #[] #[.pointer (some ⟨bx, 0, none⟩)]] w R := by
 have HR := Lib.hid hR
 clear hR
 go_enter Tryz.func79, Tryz.ntmps79
 go_wp2
 go_loopg [7, 8] 0 (fun gh va vb wr => gh = 0 ∧ va = .int .i64 0 ∧ vb = .int .i64 20 ∧ wr = w)
 case atStart => exact ⟨rfl, rfl, rfl, rfl⟩
 case round =>
  obtain ⟨rfl, rfl, rfl, rfl⟩ := hrel
  go_wp2_with fail
  refine insNil_calls c bx _ _ (fun w1 hb1 => ?_)
  have Hb1 := Lib.hid hb1
  have HR1 := Lib.hid (HR.out w1 hb1)
  clear hb1
  go_wp2
  go_loopg [6] 0 (fun gh vs wr => gh = 0 ∧ vs = .int .i64 20 ∧ wr = w1)
  case atStart => exact ⟨rfl, rfl, rfl⟩
  case round =>
   obtain ⟨rfl, rfl, rfl⟩ := hrel
   go_wp2
   all_goals first | exact HR1.out | (go_end0; exact HR1.out) | (refine bodyPost_ret (results_none rfl _ _ _) rfl ?_; first | done | exact HR1.out)
theorem sortS_nil (c : Nat) (bx : Nat) (w : World) (R : Ending → World → Prop) (hR : ∀ w', Below w.heap.size w w' → R (.returned (.tuple #[])) w') :
 Calls Tryz.prog 43 #[.slice none 0 c, .func (.func 44) #[] #[.pointer (some ⟨bx, 0, none⟩)]] w R := by
 have HR := Lib.hid hR
 clear hR
 go_enter Tryz.func43, Tryz.ntmps43
 go_wp2_with fail
 refine stableNil_calls c bx _ _ (fun w1 h1 => ?_)
 have hfin := Lib.hid (HR.out _ h1)
 clear h1
 go_wp2
 all_goals first | exact hfin.out | (go_end0; exact hfin.out) | (refine bodyPost_ret (results_none rfl _ _ _) rfl ?_; first | done | exact hfin.out)
end Go.Proofs.YtdanebboiekieaaGreatDoor
namespace Go.Proofs.YtdanebboiekieaaGreatDoor
open Go.RowKit
set_option linter.unusedSimpArgs false
set_option linter.unusedVariables false

theorem flatMap_congr_mem {α β : Type} {f g : α → List β} {l : List α} (h : ∀ x ∈ l, f x = g x) : l.flatMap f = l.flatMap g := by
 rw [List.flatMap_def, List.flatMap_def, List.map_congr_left h]
theorem flatMap_intCells (S : List Int) : S.flatMap intCells = S.map (Value.int .i64) := by
 induction S with
 | nil => rfl
 | cons x S ih => rw [List.flatMap_cons, ih]; rfl
theorem own_intAt {w : World} {base g n cap : Nat} {S : List Int} (h : w.ownsRow base 3 1 (.slice (some ⟨g, 0, none⟩) n cap) n (S.flatMap intCells)) : IntAt g S w ∧ base ≤ g ∧ n ≤ cap ∧ cap ≤ maxLen := by
 rcases h.2 with ⟨h0, _⟩ | ⟨g', cap', cur, h0, h1, h2, h3, h4, h5, h6⟩
 ·cases h0
 ·injection h0 with e1 e2 e3
  injection e1 with e1
  injection e1 with e1
  subst e1 e3
  rw [flatMap_intCells] at h6
  refine ⟨⟨cur, h2, fun k hk => ?_⟩, h1, h3, h4⟩
  have h7 : (cur.toList.take (n * 1))[k]? = some (.int .i64 (iAt S k)) := by
   rw [h6, List.getElem?_map, List.getElem?_eq_getElem hk]
   unfold iAt
   rw [List.getD_eq_getElem?_getD, List.getElem?_eq_getElem hk]
   rfl
  rw [List.getElem?_take] at h7
  split at h7
  ·simpa using h7
  ·cases h7
theorem sortW_agree {v w : Int → Int} {l : List Int} (h : ∀ x ∈ l, v x = w x) : sortW v l = sortW w l := by
 refine sortW_unique (sortW_perm v l) ?_
 have h1 := List.pairwise_mergeSort (before_trans v) (before_total v) l
 refine List.Pairwise.imp_of_mem (fun {a b} ha hb hab => ?_) h1
 have ha := (sortW_perm v l).mem_iff.1 ha
 have hb := (sortW_perm v l).mem_iff.1 hb
 unfold before at *
 rw [← h a ha, ← h b hb]
 exact hab
theorem sortW_wgt {f : UFun} {n : Nat} {D : List Int} (hD : ∀ x ∈ D, 0 ≤ x ∧ x < (n : Int)) : sortW (wtS (rowW (regsF f) n)) D = sortW (wgt f) D := by
 refine sortW_agree fun x hx => ?_
 obtain ⟨h0, h1⟩ := hD x hx
 obtain ⟨k, rfl⟩ : ∃ k : Nat, x = (k : Int) := ⟨x.toNat, by omega⟩
 unfold wtS wgt
 rw [Int.toNat_natCast, rowW_at (by omega)]
theorem getD_in {pl : List Int} {k : Nat} (h : k < pl.length) (d : Int) : pl.getD k d = iAt pl k := by
 unfold iAt
 rw [List.getD_eq_getElem?_getD, List.getD_eq_getElem?_getD, List.getElem?_eq_getElem h]
 rfl
theorem asksI_eq {pl : List Int} {n : Nat} (hl : pl.length = n) {x : UIns} (hx : x.op = 1 → x.a.reg = true → (0 ≤ x.dst ∧ x.dst < (n : Int)) ∧ (0 ≤ x.a.n ∧ x.a.n < (n : Int))) (r : Int) : asksI pl r x = asksX pl r x := by
 unfold asksI asksX
 by_cases h : x.op = 1 ∧ x.a.reg = true
 ·rw [if_pos h, if_pos h]
  have := hx h.1 h.2
  rw [getD_in (by omega), getD_in (by omega)]
 ·rw [if_neg h, if_neg h]
theorem paint_is (P : PW) (many : Int) (hm : 2 ≤ many ∧ many ≤ 14) (A : Int → Bool) (r : Nat) (hr : r < P.n) (hx : ∀ b ∈ P.f.blocks, ∀ x ∈ b.list, x.op = 1 → x.a.reg = true → (0 ≤ x.dst ∧ x.dst < (P.n : Int)) ∧ (0 ≤ x.a.n ∧ x.a.n < (P.n : Int)))
 (hg : P.gv = givenL many) (ha : P.acl = rowX A P.n) (hrl : P.rows.length = P.n) : P.paint r = paintP P.f many (A r) (P.rows.getD r []) P.pl r := by
 have hro : ∀ o ∈ P.rows.getD r [], 0 ≤ o ∧ o < (P.n : Int) := by
  intro o ho
  rw [List.getD_eq_getElem?_getD, List.getElem?_eq_getElem (by omega)] at ho
  exact P.hrow _ (List.getElem_mem _) o ho
 have e1 : P.wishA r = asksF P.f P.pl r ++ givenL many := by
  unfold PW.wishA asksF
  rw [hg]
  congr 2
  refine flatMap_congr_mem (fun b hb => ?_)
  unfold asksJ asksB
  exact flatMap_congr_mem fun x hx' => asksI_eq P.hpl (hx b hb x hx') _
 have e2 : P.fr r = freeB many (A r) (P.rows.getD r []) P.pl := by
  funext p
  unfold PW.fr freeI freeB PW.row
  rw [takenI_eq P.hpl hro, hg, ha]
  congr 2
  ·rw [Bool.eq_iff_iff, decide_eq_true_eq]
   exact mem_givenL hm
  ·congr 2
   rw [Bool.eq_iff_iff, decide_eq_true_eq, mem_rowX]
   constructor
   ·exact fun h => h.2
   ·exact fun h => ⟨by omega, h⟩
 unfold PW.paint paintP
 rw [e1, e2]
 rfl
end Go.Proofs.YtdanebboiekieaaGreatDoor
namespace Go.Proofs.YtdanebboiekieaaGreatDoor
open Go.RowKit
set_option linter.unusedSimpArgs false
set_option linter.unusedVariables false

set_option maxRecDepth 100000 in
set_option maxHeartbeats 8000000 in
theorem OfBad_calls (u : Unt) (hu : UntI u) (k : Int) (c a : Int) (hF : clashF u k = (c, a)) (hne : ¬ (c = 0 ∧ a = 0)) (gA fA : Option Addr) (gn gc fn fc : Nat) (w : World) (hW : Ways w) (hg : rpGlobal.SL w w.heap.size u.globals (.slice gA gn gc)) (hf : rpFun.SL w w.heap.size u.funcs (.slice fA fn fc)) (R : Ending → World → Prop)
 (hR : ∀ w', Below w.heap.size w w' → R (.returned (.tuple #[.slice none 0 0, .agg #[.int .i64 c, .int .i64 a]])) w') :
 Calls Tryz.prog 37 #[.agg #[.slice gA gn gc, .slice fA fn fc], .int .i64 k] w R := by
 have HR := Lib.hid hR
 have Hg := Lib.hid hg
 have Hf := Lib.hid hf
 have HW := Lib.hid hW
 have HF := Lib.hid hF
 clear hR hg hf hW hF
 go_enter Tryz.func37, Tryz.ntmps37
 go_upto_region 1 with fail
 obtain ⟨W2, hW2⟩ : ∃ W2, W2 = (w.alloc (Obj.cells #[.slice gA gn gc, .slice fA fn fc] 25)).alloc (Obj.cells #[.int .i64 0, .int .i64 0] 30) := ⟨_, rfl⟩
 have hb2 : Below w.heap.size w W2 := by subst hW2; exact bl0
 have hU2 : W2.heap[w.heap.size]? = some (.cells #[.slice gA gn gc, .slice fA fn fc] 25 (0, 0)) := by subst hW2; exact blk_alloc (heap_alloc_new _ _) _
 have hF2 : W2.heap[w.heap.size + 1]? = some (.cells #[.int .i64 0, .int .i64 0] 30 (0, 0)) := by
  subst hW2
  have := heap_alloc_new (w.alloc (Obj.cells #[.slice gA gn gc, .slice fA fn fc] 25)) (Obj.cells #[.int .i64 0, .int .i64 0] 30)
  simpa using this
 rw [← hW2]
 have Hb2 := Lib.hid hb2
 have HU2 := Lib.hid hU2
 have HF2 := Lib.hid hF2
 have hz2 := hb2.size
 obtain ⟨u0, u1⟩ := cells_blk hU2
 have lU := blk_lt hU2
 clear hW2 hb2 hU2 hF2
 go_wp2_with fail
 refine ClashFault_calls u hu k _ _ _ _ _ _ _ (HW.out.up Hb2.out HW.out.1) (Hg.out.up Hb2.out hz2) (Hf.out.up Hb2.out hz2) _ (fun w3 hb3 => ?_)
 rw [HF.out]
 have Hb3 := Lib.hid (Hb2.out.trans (hb3.mono hz2))
 have HF3 := Lib.hid ((hb3.block _ (blk_lt HF2.out)).trans HF2.out)
 have hz3 := Hb3.out.size
 clear hb3 u0 u1 lU
 obtain ⟨W4, hW4⟩ : ∃ W4, W4 = w3.alloc (Obj.cells #[.int .i64 c, .int .i64 a] 30) := ⟨_, rfl⟩
 have hb34 : Below w3.heap.size w3 W4 := by subst hW4; exact bl0
 have hE4 : W4.heap[w3.heap.size]? = some (.cells #[.int .i64 c, .int .i64 a] 30 (0, 0)) := by subst hW4; exact heap_alloc_new _ _
 have Hb4 := Lib.hid (Hb3.out.trans (hb34.mono hz3))
 have HF4 := Lib.hid ((hb34.block _ (blk_lt HF3.out)).trans HF3.out)
 have HW4 := Lib.hid hW4.symm
 have Hbl := Lib.hid (below_sets Hb4.out.drew [(⟨w.heap.size + 1, 0, none⟩, .int .i64 c), (⟨w.heap.size + 1, 1, none⟩, .int .i64 a)] (by simp))
 have HE4 := Lib.hid hE4
 clear hW4 hb34 hE4
 obtain ⟨e0, e1⟩ := cells_blk HE4.out
 have lE := blk_lt HE4.out
 obtain ⟨f0, f1⟩ := cells_blk HF4.out
 have lF := blk_lt HF4.out
 have y0 : W4.frozen? ⟨w.heap.size + 1, 0, none⟩ = false := by simp [World.frozen?, HF4.out]
 have y1 : W4.frozen? ⟨w.heap.size + 1, 1, none⟩ = false := by simp [World.frozen?, HF4.out]
 go_upto_region 2 with fail
 rw [HW4.out]
 by_cases hc : c = 0
 ·subst hc
  have ha : ¬ a = 0 := fun h => hne ⟨rfl, h⟩
  clear hne
  go_wp2
  go_region
  go_wp2
  refine bodyPost_ret (v := .tuple #[.slice none 0 0, .agg #[.int .i64 0, .int .i64 a]]) (by simp [results, Tryz.results37, go_sem, f0, f1, lF]) rfl ?_
  exact HR.out _ Hbl.out
 ·clear hne
  go_wp2
  go_region
  go_wp2
  refine bodyPost_ret (v := .tuple #[.slice none 0 0, .agg #[.int .i64 c, .int .i64 a]]) (by simp [results, Tryz.results37, go_sem, f0, f1, lF]) rfl ?_
  exact HR.out _ Hbl.out
end Go.Proofs.YtdanebboiekieaaGreatDoor
