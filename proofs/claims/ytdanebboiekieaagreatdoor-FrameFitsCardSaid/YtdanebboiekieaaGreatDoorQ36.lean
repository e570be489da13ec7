/- A stable sort of ints: merging in place; one on the right. -/
import Derived.Test.YtdanebboiekieaaGreatDoorQ35
import Derived.Test.YtdanebboiekieaaGreatDoorQ01
import Derived.Test.YtdanebboiekieaaGreatDoorRows
import Derived.IntWalk
import Derived.BigRegion
import Derived.BigQuiet
import Derived.Outline
import Derived.Deep.LoopGhost
import Derived.Deep.RegionLaw
import Derived.Deep.CutBlock
import Derived.Deep.DeepCutAuto
namespace Go.Proofs.YtdanebboiekieaaGreatDoor
open Go.RowKit
set_option linter.unusedSimpArgs false
set_option linter.unusedVariables false

theorem one_right {S P L Q T : List Int} {y : Int} {a m b i : Nat} (h : Sym S P L [y] Q a m b T) (hi : a ≤ i ∧ i ≤ m) (h1 : a < i → ¬ wtS S (iAt T (i - 1)) < wtS S y) (h2 : i < m → wtS S (iAt T i) < wtS S y) :
 SortB S (L.take (i - a) ++ y :: L.drop (i - a)) := by
 have hT := h.eq
 have l1 := h.la
 have l2 := h.lm
 have l4 := h.le
 have hs : SortB S (L.take (i - a) ++ L.drop (i - a)) := by rw [List.take_append_drop]; exact h.sl
 have hs' := List.pairwise_append.1 hs
 have at_ : ∀ k, k < L.length → iAt T (a + k) = L[k]! := fun k hk => by
  rw [hT, iAt_right (by omega), iAt_left (by omega)]
  unfold iAt
  rw [show a + k - P.length = k by omega, List.getD_eq_getElem?_getD, List.getElem?_eq_getElem hk, List.getElem!_eq_getElem?_getD, List.getElem?_eq_getElem hk]
  rfl
 have e1 : ∀ u ∈ L.take (i - a), before (wtS S) u y = true := fun u hu => by
  rcases List.eq_nil_or_concat (L.take (i - a)) with e | ⟨l, z, e⟩
  ·rw [e] at hu; cases hu
  rw [List.concat_eq_append] at e
  have hl : (L.take (i - a)).length = i - a := by rw [List.length_take]; omega
  rw [e, List.length_append, List.length_singleton] at hl
  have h6 : (L.take (i - a))[i - 1 - a]? = some z := by rw [e, List.getElem?_append_right (by omega), show i - 1 - a - l.length = 0 by omega]; rfl
  have hzL : z ∈ L := List.mem_of_mem_take (List.mem_of_getElem? h6)
  have hz : iAt T (i - 1) = z := by
   have h5 := at_ (i - 1 - a) (by omega)
   rw [show a + (i - 1 - a) = i - 1 by omega] at h5
   rw [h5]
   rw [List.getElem?_take, if_pos (by omega)] at h6
   rw [List.getElem!_eq_getElem?_getD, h6]
   rfl
  have h7 := h1 (by omega)
  rw [hz] at h7
  rw [e] at hu hs'
  exact before_trans _ _ _ _ (sort_last hs'.1 hu (before_self S)) (before_le (l4 z hzL y (by simp)) h7)
 have e2 : ∀ u ∈ L.drop (i - a), before (wtS S) y u = true := fun u hu => by
  have hlt : i - a < L.length := by
   rcases Nat.lt_or_ge (i - a) L.length with h | h
   ·exact h
   ·rw [List.drop_eq_nil_of_le h] at hu; cases hu
  have h7 := h2 (by omega)
  have h5 := at_ (i - a) hlt
  rw [show a + (i - a) = i by omega] at h5
  rw [h5, List.getElem!_eq_getElem?_getD, List.getElem?_eq_getElem hlt] at h7
  have hd := List.drop_eq_getElem_cons hlt
  have h8 : before (wtS S) y L[i - a] = true := before_gt h7
  rw [hd] at hu hs'
  exact before_trans _ _ _ _ h8 (sort_head hs'.2.1 hu)
 refine List.pairwise_append.2 ⟨hs'.1, List.pairwise_cons.2 ⟨e2, hs'.2.1⟩, fun u hu v hv => ?_⟩
 rcases List.mem_cons.1 hv with rfl | hv
 ·exact e1 u hu
 ·exact hs'.2.2 u hu v hv
set_option maxRecDepth 100000 in
set_option maxHeartbeats 8000000 in
theorem symB_calls (S : List Int) (g nn cp bx gs n c a m b : Nat) (P L Q T : List Int) (y : Int) (hSy : Sym S P L [y] Q a m b T) (hm : 1 < L.length) (hn : b + Q.length = n) (hn1 : n ≤ 1000) (hD : ∀ v ∈ L ++ [y], 0 ≤ v ∧ v < (nn : Int)) (w : World) (hC : CmpN S g nn cp bx gs w) (hI : IntAt gs T w) (R : Ending → World → Prop)
 (hR : ∀ w' D, SortB S D → D.Perm (L ++ [y]) → IntI gs (P ++ (D ++ Q)) w w' → R (.returned (.tuple #[])) w') :
 Calls Tryz.prog 103 #[.slice (some ⟨gs, 0, none⟩) n c, .int .i64 (a : Int), .int .i64 (m : Int), .int .i64 (b : Int), .func (.func 44) #[] #[.pointer (some ⟨bx, 0, none⟩)]] w R := by
 have HR := Lib.hid hR
 have HC := Lib.hid hC
 have HD := Lib.hid hD
 have HSy := Lib.hid hSy
 have hl := sym_len hSy
 have hma : b = m + 1 := by have := hSy.lb; simp at this; omega
 have hbm : a + L.length = m := hSy.lm
 have HL := Lib.hid (And.intro hl (And.intro hbm hSy.la))
 have ha1 : a ≤ 1000 := by omega
 have hb1 : b ≤ 1000 := by omega
 have hm1 : m ≤ 1000 := by omega
 have e0 : ¬ (m : Int) - (a : Int) = 1 := by omega
 have e00 : (b : Int) - (m : Int) = 1 := by omega
 have e0b : ((m : Int) - (a : Int) == 1) = false := by simp; omega
 have hmb : a < m := by omega
 have hbn : b ≤ n := by omega
 have Hn := Lib.hid hn
 have Hma := Lib.hid hma
 have HI0 := Lib.hid (IntI.refl hI)
 clear hR hC hD hSy hl hbm hn hma hI hm
 go_enter Tryz.func103, Tryz.ntmps103
 go_wp2
 go_loopg [14, 15] (m - a) (fun gh vi vj wr => ∃ (i j : Nat), a ≤ i ∧ i ≤ j ∧ j ≤ m ∧ gh = j - i ∧ vi = .int .i64 i ∧ vj = .int .i64 j ∧ Hid (a < i → ¬ wtS S (iAt T (i - 1)) < wtS S y) ∧ Hid (j < m → wtS S (iAt T j) < wtS S y) ∧ Hid (IntI gs T w wr))
 case atStart => exact ⟨a, m, Nat.le_refl _, by omega, Nat.le_refl _, rfl, rfl, rfl, Lib.hid (fun h => absurd h (by omega)), Lib.hid (fun h => absurd h (by omega)), HI0⟩
 case round =>
  clear HI0
  obtain ⟨i, j, hi, hij, hj, hg, rfl, rfl, h1, h2, hT⟩ := hrel
  have Hg := Lib.hid hg
  clear hg
  by_cases hlt : i < j
  ·have k1 : (i : Int) < (j : Int) := by omega
   go_upto_region 17 with fail
   obtain ⟨h, hh⟩ : ∃ h : Nat, h = (i + j) / 2 := ⟨_, rfl⟩
   have e1 : ((i : Int) + (j : Int)) / 2 = (h : Int) := by omega
   rw [e1]
   have hih : i ≤ h := by omega
   have hhj : h < j := by omega
   clear e1 hh
   have c0 := hT.out.1.cell (k := h) (by have := HL.out; omega)
   have c1 := hT.out.1.cell (k := m) (by have := HL.out; omega)
   have lg := hT.out.1.lt
   have hxa : iAt T m = y := by
    rw [HSy.out.eq, ← List.append_assoc]
    exact iAt_mid (by have := HL.out; rw [List.length_append]; omega)
   have hyD := HD.out _ (sym_at HSy.out (k := h) (by omega) (by omega))
   have hxD := HD.out y (by simp)
   have HCr := Lib.hid (HC.out.keep hT.out.2.2)
   have n1 := Lib.hid (fun q : ¬ wtS S (iAt T h) < wtS S y => (fun _ => by rw [show h + 1 - 1 = h by omega]; exact q : a < h + 1 → ¬ wtS S (iAt T (h + 1 - 1)) < wtS S y))
   have n2 := Lib.hid (fun q : wtS S (iAt T h) < wtS S y => (fun _ => q : h < m → wtS S (iAt T h) < wtS S y))
   rw [hxa] at c1
   obtain ⟨u, hy⟩ : ∃ u, u = iAt T h := ⟨_, rfl⟩
   rw [← hy] at c0 hyD
   have Hy := Lib.hid hy
   have hcm := cmpW_neg (S := S) (a := y) (b := u)
   obtain ⟨z, hz⟩ : ∃ z, z = cmpW S y u := ⟨_, rfl⟩
   rw [← hz] at hcm
   have Hcm := Lib.hid hcm
   have Hcall : Hid (∀ m, Calls Tryz.prog 44 #[.int .i64 y, .int .i64 u, .pointer (some ⟨bx, 0, none⟩)] (wr.drewN m) (fun e w' => e = .returned (.int .i64 z) ∧ ∃ k, w' = (wr.drewN m).drewN k)) := Lib.hid (fun m => by
    have := ofCmp_drew S g nn cp bx y u (wr.drewN m) HCr.out.row HCr.out.len HCr.out.box hxD hyD
    rwa [← hz] at this)
   have q1 : (0 : Int) ≤ (h : Int) := by omega
   have q2 : (h : Int) < (n : Int) := by omega
   have q3 : (0 : Int) ≤ (m : Int) := by omega
   have q4 : (m : Int) < (n : Int) := by omega
   clear hy hcm hz hyD hxD hxa
   go_big_quiet ((exact Calls.quiet_of (Hcall.out _)))
   have HTq : Hid (IntI gs T w (wr.drewN nq)) := Lib.hid (hT.out.below (drewN_below wr nq))
   obtain ⟨wq, hwq⟩ : ∃ wq, wq = wr.drewN nq := ⟨_, rfl⟩
   rw [← hwq] at HTq
   rw [← hwq]
   clear hwq c0 c1 lg hT HCr Hcall
   by_cases hzn : z < 0
   ·have hnew := Lib.hid (n2.out (by rw [← Hy.out]; exact Hcm.out.1 hzn))
    simp only [decide_eq_true hzn, Bool.not_true]
    go_wp2
    go_roundg (h - i)
    case measure => have := Hg.out; omega
    case rel => exact ⟨i, h, by omega, by omega, by omega, rfl, rfl, rfl, h1, hnew, HTq⟩
   ·have hnew := Lib.hid (n1.out (by rw [← Hy.out]; exact fun q => hzn (Hcm.out.2 q)))
    have q5 : (0 : Int) ≤ z := by omega
    simp only [decide_eq_false hzn, Bool.not_false]
    go_wp2
    go_roundg (j - (h + 1))
    case measure => have := Hg.out; omega
    case rel => exact ⟨h + 1, j, by omega, by omega, by omega, rfl, by go_num, rfl, hnew, h2, HTq⟩
  ·obtain rfl : i = j := by omega
   have k1 : ¬ (i : Int) < (i : Int) := by omega
   obtain ⟨d, hd⟩ : ∃ d : Nat, d = i - a := ⟨_, rfl⟩
   have hsrt := one_right HSy.out (i := i) ⟨hi, hj⟩ h1.out h2.out
   rw [← hd] at hsrt
   have Hsrt := Lib.hid hsrt
   have hT0 : IntI gs (mvV P L Q y L.length) w wr := by
    have := hT.out
    rw [HSy.out.eq] at this
    unfold mvV
    rw [List.take_length, List.drop_length]
    exact this
   have HT0 := Lib.hid hT0
   have Hd := Lib.hid hd
   have hdm : d ≤ L.length := by have := HL.out; omega
   clear hsrt hT0 hT h1 h2 hd
   go_wp2
   go_loopg [17] (L.length - d) (fun gh vk wr => ∃ (e k : Nat), d ≤ e ∧ e ≤ L.length ∧ gh = e - d ∧ k = a + e ∧ vk = .int .i64 k ∧ Hid (IntI gs (mvV P L Q y e) w wr))
   case atStart => exact ⟨L.length, m, hdm, Nat.le_refl _, rfl, by have := HL.out; omega, rfl, HT0⟩
   case round =>
    clear HT0
    obtain ⟨e, k, hde, heL, hg, hk, rfl, hT⟩ := hrel
    have Hg := Lib.hid hg
    have Hk := Lib.hid hk
    have hkd : d < e ∨ ¬ d < e := by omega
    rcases hkd with hkd | hkd
    ·have k2 : (i : Int) < (k : Int) := by have := Hd.out; omega
     obtain ⟨e', rfl⟩ : ∃ e', e = e' + 1 := ⟨e - 1, by omega⟩
     have hml := mvV_len (P := P) (A := L) (Q := Q) (x := y) (c := e' + 1)
     have hup := mv_down (P := P) (A := L) (Q := Q) (x := y) (c := e') HL.out.2.2 (by omega)
     have hnl : (mvV P L Q y (e' + 1)).length = n := by have := HL.out; have := Hma.out; have := Hn.out; omega
     clear hml hg hk
     obtain ⟨T2, hT2⟩ : ∃ T2, T2 = mvV P L Q y (e' + 1) := ⟨_, rfl⟩
     rw [← hT2] at hT hup hnl
     obtain ⟨q, hq⟩ : ∃ q : Nat, q = a + e' := ⟨_, rfl⟩
     rw [show a + e' + 1 = k by have := Hk.out; omega, ← hq] at hup
     have hkq : k = q + 1 := by have := Hk.out; omega
     have hkn : k < n := by have := HL.out; have := Hma.out; have := Hk.out; have := Hn.out; omega
     have e3 : (k : Int) - 1 = (q : Int) := by omega
     have c0 := hT.out.1.cell (k := k) (by omega)
     have c1 := hT.out.1.cell (k := q) (by omega)
     have f0 := hT.out.1.frozen k
     have f1 := hT.out.1.frozen q
     have lg := hT.out.1.lt
     have I0 := (hT.out.1.set k (iAt T2 q))
     have I1 := (hT.out.1.set q (iAt T2 k))
     have d0 := I0.cell (k := q) (by rw [List.length_set]; omega)
     have d1 := I1.cell (k := k) (by rw [List.length_set]; omega)
     rw [iAt_set (by omega), if_neg (by omega)] at d0 d1
     have g0 := I0.frozen q
     have g1 := I1.frozen k
     have hsw : IntI gs (mvV P L Q y e') w ((wr.setCell ⟨gs, k, none⟩ (.int .i64 (iAt T2 q))).setCell ⟨gs, q, none⟩ (.int .i64 (iAt T2 k))).drew := by
      rw [← hup]
      exact ((hT.out.set k (iAt T2 q)).set q (iAt T2 k)).below (Below.refl _ _).drew
     have Hsw := Lib.hid hsw
     have Hq := Lib.hid hq
     obtain ⟨u, hu⟩ : ∃ u, u = iAt T2 k := ⟨_, rfl⟩
     obtain ⟨v, hv⟩ : ∃ v, v = iAt T2 q := ⟨_, rfl⟩
     rw [← hu, ← hv] at Hsw
     rw [← hv] at c1 d0
     rw [← hu] at c0 d1
     rw [← hv] at g0
     rw [← hu] at g1
     have q1 : (0 : Int) ≤ (k : Int) := by omega
     have q2 : (k : Int) < (n : Int) := by omega
     have q3 : (0 : Int) ≤ (q : Int) := by omega
     have q4 : (q : Int) < (n : Int) := by omega
     clear hsw I0 I1 hT hup hT2 hnl hu hv hq hkq
     go_upto_region 23 with fail
     go_region
     clear c0 c1 d0 d1 f0 f1 g0 g1 lg
     go_wp2
     go_roundg (e' - d)
     case measure => have := Hg.out; omega
     case rel => exact ⟨e', q, by omega, by omega, rfl, Hq.out, by go_num, Hsw⟩
    ·have hde2 : e = d := by omega
     have k2 : ¬ (i : Int) < (k : Int) := by have := Hd.out; omega
     have hfin := Lib.hid (HR.out _ (L.take d ++ y :: L.drop d) Hsrt.out ((take_drop_perm L y d).trans (List.perm_append_singleton y L).symm) (by
      have := hT.out
      rw [hde2] at this
      unfold mvV at this
      simpa only [List.append_assoc, List.cons_append] using this))
     clear hg hk hT
     go_wp2
     first | exact hfin.out | (go_end0; exact hfin.out) | (refine bodyPost_ret (results_none rfl _ _ _) rfl ?_; exact hfin.out)
end Go.Proofs.YtdanebboiekieaaGreatDoor
