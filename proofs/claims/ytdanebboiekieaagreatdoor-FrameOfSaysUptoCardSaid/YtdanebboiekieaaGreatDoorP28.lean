/- The walks, part 28. -/
import Derived.Test.YtdanebboiekieaaGreatDoorP27
set_option linter.unusedSimpArgs false
set_option linter.unusedVariables false
set_option maxRecDepth 100000
set_option maxHeartbeats 16000000
namespace Go.Proofs.YtdanebboiekieaaGreatDoor
open Go.RowKit
theorem q6i (u : Unt) (hu : UntI u) (k : Int) (c a : Int) (hF : q0q u k = (c, a)) (hne : c ≠ 0) (gA fA : Option Addr) (gn gc fn fc : Nat) (w : World) (hW : Ways w) (hg : rpGlobal.SL w w.heap.size u.globals (.slice gA gn gc)) (hf : rpFun.SL w w.heap.size u.funcs (.slice fA fn fc)) (R : Ending -> World -> Prop)
 (hR : ∀ w', Below w.heap.size w w' -> R (.returned (.tuple #[.slice none 0 0, .agg #[.int .i64 c, .int .i64 a]])) w') :
 Calls Tryz.prog 47 #[.agg #[.slice gA gn gc, .slice fA fn fc], .int .i64 k] w R := by
 obtain ⟨HR, Hg, Hf, HW, HCL⟩ := lh5 hR hg hf hW hF
 clear hR hg hf hW hF
 go_enter Tryz.func47, Tryz.ntmps47
 go_upto_region 1 with fail
 obtain ⟨W2, hW2, hb2, hU2, hF2⟩ := box2 w (.cells #[.slice gA gn gc, .slice fA fn fc] 25) (.cells #[.int .i64 0, .int .i64 0] 30) rfl
 rw [<- hW2]
 obtain ⟨Hb2, HU2, HF2⟩ := lh3 hb2 hU2 hF2
 have hz2 := hb2.size
 obtain ⟨u0, u1, lU⟩ := cbl hU2
 clear hW2 hb2 hU2 hF2
 go_wp2_with fail
 refine q2b u hu k _ _ _ _ _ _ _ (HW.out.up Hb2.out HW.out.1) (Hg.out.up Hb2.out hz2) (Hf.out.up Hb2.out hz2) _ (fun w3 hb3 => ?_)
 rw [HCL.out]
 have Hb3 := btt Hb2 hb3 hz2
 have HU3 := bkk hb3 HU2
 have HF3 := bkk hb3 HF2
 have hz3 := Hb3.out.size
 clear hb3 u0 u1 lU
 obtain ⟨E, hE⟩ := nmm (w3.heap.size)
 obtain ⟨W4, hW4, hb34, hE4⟩ := box1 w3 (.cells #[.int .i64 c, .int .i64 a] 30) hE
 have Hb4 := btt Hb3 hb34 hz3
 have HU4 := bkk hb34 HU3
 have HF4 := bkk hb34 HF3
 have HW4 := lh hW4.symm
 have HEs : Hid (w.heap.size + 1 < E) := lh (by rw [hE]; exact qc HF3.out)
 obtain ⟨HEe, HE4⟩ := lh2 hE hE4
 have hz4 := Hb4.out.size
 clear hW4 hb34 hE4 hE
 obtain ⟨e0, e1, lE⟩ := cbl HE4.out
 obtain ⟨f0, f1, lF⟩ := cbl HF4.out
 obtain ⟨u0, u1, lU⟩ := cbl HU4.out
 have y0 := fzz HF4.out 0
 have y1 := fzz HF4.out 1
 have n1 : w.heap.size + 1 ≠ E := by have := HEs.out; omega
 have n2 : E ≠ w.heap.size + 1 := by omega
 go_upto_region 2 with fail
 rw [<- HEe.out, HW4.out]
 have Hbl := lh (qr Hb4.out.drew [(⟨w.heap.size + 1, 0, none⟩, .int .i64 c), (⟨w.heap.size + 1, 1, none⟩, .int .i64 a)] (by simp))
 have hc : ¬ c = 0 := hne
 clear hne
 go_wp2
 go_region
 go_wp2
 refine bodyPost_ret (v := .tuple #[.slice none 0 0, .agg #[.int .i64 c, .int .i64 a]]) (by simp [results, Tryz.results47, go_sem, f0, f1, lF]) rfl ?_
 exact HR.out _ Hbl.out
theorem q4r (C : Int -> Int -> Bool) (L : Nat -> Nat -> Int -> Bool) (u : Unt) (hu : UntI u) (k : Nat) (f : UFun) (hok : qp u = (0, 0)) (hkf : u.funcs[k]? = some f) (hnp : ∀ b ∈ f.blocks, b.phis = []) (n : Nat) (hn : f.regs = (n : Int)) (hlen : ∀ b ∈ f.blocks, b.list.length ≤ 300) (hL : ∀ i k a, L i k a = true ↔ LvI f a i k) (gA fA : Option Addr) (gn gc fc : Nat) (w : World) (hW : Ways w) (hg : rpGlobal.SL w w.heap.size u.globals (.slice gA gn gc)) (hf : rpFun.SL w w.heap.size u.funcs (.slice fA u.funcs.length fc)) (R : Ending -> World -> Prop)
 (hC : ∀ a b, C a b = true ↔ Clash f a b)
 (hR : ∀ w' v', Below w.heap.size w w' -> rpInt.slice.SLF w' w.heap.size w'.heap.size (rowsC C n) v' -> R (.returned (.tuple #[v', (.agg #[.int .i64 (((0 : Int), (0 : Int))).1, .int .i64 (((0 : Int), (0 : Int))).2])])) w') :
 Calls Tryz.prog 47 #[.agg #[.slice gA gn gc, .slice fA u.funcs.length fc], .int .i64 (k : Int)] w R := by
 have hfo := funOk hok hkf
 have hn1 : n ≤ 100 := by have := hfo.regs.2; omega
 have hcl := q5b hok hkf hnp
 obtain ⟨hku, hfk⟩ := List.getElem?_eq_some_iff.1 hkf
 obtain ⟨bf, offf, vb, hfA, hbf, hsb, qf0, qf1, qf2, qf3⟩ := hf.fun_at hku
 subst hfA
 rw [hfk] at qf0 qf1 qf2 hsb
 obtain ⟨bA, bc, rfl, _, _, hsb⟩ := hsb.cases_
 have k0 := nnn k
 have k1 : (k : Int) < (u.funcs.length : Int) := by omega
 obtain ⟨HR, Hg, Hf, HW, Hn, HL, HCL, Hfo, Hsb, Hlen, HC⟩ := lh11 hR hg hf hW hn hL hcl hfo hsb hlen hC
 clear hR hg hf hW hok hkf hnp hn hL hcl hfo hsb hfk hlen
 go_enter Tryz.func47, Tryz.ntmps47
 go_upto_region 1 with fail
 obtain ⟨W2, hW2, hb2, hU2, hF2⟩ := box2 w (.cells #[.slice gA gn gc, .slice (some ⟨bf, offf, none⟩) u.funcs.length fc] 25) (.cells #[.int .i64 0, .int .i64 0] 30) rfl
 rw [<- hW2]
 obtain ⟨Hb2, HU2, HF2⟩ := lh3 hb2 hU2 hF2
 have hz2 := hb2.size
 obtain ⟨u0, u1, lU⟩ := cbl hU2
 clear hW2 hb2 hU2 hF2
 go_wp2_with fail
 refine q2b u hu (k : Int) _ _ _ _ _ _ _ (HW.out.up Hb2.out HW.out.1) (Hg.out.up Hb2.out hz2) (Hf.out.up Hb2.out hz2) _ (fun w3 hb3 => ?_)
 rw [HCL.out]
 have Hb3 := btt Hb2 hb3 hz2
 have HU3 := bkk hb3 HU2
 have HF3 := bkk hb3 HF2
 have hz3 := Hb3.out.size
 clear hb3 u0 u1 lU
 obtain ⟨E, hE⟩ := nmm (w3.heap.size)
 obtain ⟨W4, hW4, hb34, hE4⟩ := box1 w3 (.cells #[.int .i64 0, .int .i64 0] 30) hE
 have Hb4 := btt Hb3 hb34 hz3
 have HU4 := bkk hb34 HU3
 have HF4 := bkk hb34 HF3
 have HW4 := lh hW4.symm
 have HEs : Hid (w.heap.size + 1 < E) := lh (by rw [hE]; exact qc HF3.out)
 obtain ⟨HEe, HE4⟩ := lh2 hE hE4
 have hz4 := Hb4.out.size
 clear hW4 hb34 hE4 hE
 obtain ⟨e0, e1, lE⟩ := cbl HE4.out
 obtain ⟨f0, f1, lF⟩ := cbl HF4.out
 obtain ⟨u0, u1, lU⟩ := cbl HU4.out
 have y0 := fzz HF4.out 0
 have y1 := fzz HF4.out 1
 have n1 : w.heap.size + 1 ≠ E := by have := HEs.out; omega
 have n2 : E ≠ w.heap.size + 1 := by omega
 go_upto_region 2 with fail
 rw [<- HEe.out, HW4.out]
 have p0 := (Hb4.out.cell (p := ⟨bf, offf + k * 4, none⟩) hbf).trans qf0
 have p1 := (Hb4.out.cell (p := ⟨bf, offf + k * 4 + 1, none⟩) hbf).trans qf1
 have p2 := (Hb4.out.cell (p := ⟨bf, offf + k * 4 + 2, none⟩) hbf).trans qf2
 have p3 := (Hb4.out.cell (p := ⟨bf, offf + k * 4 + 3, none⟩) hbf).trans qf3
 have lbf : bf < W4.heap.size := by omega
 obtain ⟨X, hX⟩ := nmm (W4.heap.size)
 obtain ⟨W5, hW5, hb45, hX5⟩ := box1 W4 (.cells #[.string f.name, .int .i64 f.params, .int .i64 f.regs, .slice bA f.blocks.length bc] 56) hX
 have Hb5 := btt Hb4 hb45 hz4
 have HF5 := bkk hb45 HF4
 have HX5 := lh hX5
 have HW5 := lh hW5.symm
 have HXe := lh hX
 have hz5 := Hb5.out.size
 clear hW5 hb45 hX5 hX
 go_upto_region 5 with fail
 rw [<- HXe.out, HW5.out]
 clear e0 e1 lE f0 f1 lF u0 u1 lU y0 y1 n1 n2 p0 p1 p2 p3 lbf
 have Hs5 := lh (Hsb.out.up Hb5.out hz5)
 obtain ⟨x0, x1, x2, x3⟩ := cq4 HX5.out
 have lX := qc HX5.out
 have hnb : 1 ≤ f.blocks.length ∧ f.blocks.length ≤ 40 := Hfo.out.blocks
 have Hnb := lh hnb
 clear hnb
 go_wp2_with fail
 refine q8t L f n Hn.out hn1 _ _ Hlen.out Hnb.out Hfo.out.to HL.out _ Hs5.out _ (fun w6 v6 hb6 hsl6 => ?_)
 obtain ⟨lA, lc, rfl, _, _, hsl6⟩ := hsl6.cases_
 rw [q3c] at hsl6 ⊢
 have Hv6 := lh hsl6.SL
 have Hb6 := btt Hb5 hb6 hz5
 have HF6 := bkk hb6 HF5
 have HX6 := bkk hb6 HX5
 have Hs6 := lh (Hs5.out.up hb6 hb6.size)
 have hz6 := Hb6.out.size
 obtain ⟨iB, hiB, zB0, zB1, zB2⟩ := info_parts q4k
 obtain ⟨i0, hi0, hz0', hz1', hz2'⟩ := info_parts q1v
 clear hb6 hsl6 x0 x1 x2 x3 lX
 go_wp2
 go_loopg [9, 10] n (fun gh s9 s10 wr => ∃ (a : Nat) (css : List (List Value)), a ≤ n ∧ gh = n - a ∧ s10 = .int .i64 (a : Int) ∧ Hid (Built rpInt.slice w6.heap.size 26 (fun b => b < w6.heap.size) wr s9 (rowsC C n |>.take a) css) ∧ Hid (Below w6.heap.size w6 wr))
 case atStart => exact ⟨0, [], Nat.zero_le _, rfl, rfl, lh (by rw [List.take_zero]; exact Built.nil _ _ _ _ _ (fun _ h => h)), lh (Below.refl _ _)⟩
 case round =>
  obtain ⟨a, css, ha, rfl, rfl, Hbu, Hbel⟩ := hrel
  have hz := Hbel.out.size
  have a0 := nnn a
  have hXr := (Hbel.out.block _ (qc HX6.out)).trans HX6.out
  have x2 : wr.cell? ⟨X, 2, none⟩ = some (.int .i64 f.regs) := cqq hXr
  have lX := qc hXr
  have hrl : (rowsC C n).length = n := by unfold rowsC; rw [List.length_map, q1g]
  have htl : (rowsC C n |>.take a).length = a := by rw [List.length_take, hrl]; omega
  obtain ⟨A7, n7, hs7⟩ := qn Hbu.out.own
  rw [htl] at hs7
  subst hs7
  by_cases hlt : a < n
  ·have a1 : (a : Int) < f.regs := by rw [Hn.out]; omega
   obtain ⟨wo, hwo⟩ := nmm (wr)
   have HXo := lh hXr
   rw [<- hwo] at Hbu Hbel hz x2 lX HXo ⊢
   have HO0 : Hid (wo.ownsRow wo.heap.size 3 1 (.slice none 0 0) (rowX (C a) 0).length ((rowX (C a) 0).flatMap qf)) := lh (World.ownsRow_nil _ _ _ _)
   have Hso := lh (Hs6.out.up Hbel.out hz)
   have Hvo := lh (Hv6.out.up Hbel.out hz)
   have Htl := lh htl
   clear hwo hXr hrl htl
   go_wp2
   clear x2 lX
   go_loopg [11, 12] n (fun gh s11 s12 wr => ∃ b : Nat, b ≤ n ∧ gh = n - b ∧ s12 = .int .i64 (b : Int) ∧ Hid (wr.ownsRow wo.heap.size 3 1 s11 (rowX (C a) b).length ((rowX (C a) b).flatMap qf)) ∧ Hid (Below wo.heap.size wo wr))
   case atStart => exact ⟨0, Nat.zero_le _, rfl, rfl, HO0, lh (Below.refl _ _)⟩
   case round =>
    clear HO0
    obtain ⟨b, hb, rfl, rfl, HO, Hb7⟩ := hrel
    have hz7 := Hb7.out.size
    have b0 := nnn b
    have hXr := (Hb7.out.block _ (qc HXo.out)).trans HXo.out
    obtain ⟨x0, x1, x2, x3⟩ := cq4 hXr
    have lX := qc hXr
    obtain ⟨rA, rc, hsr⟩ := qn HO.out
    subst hsr
    by_cases hltb : b < n
    ·have b1 : (b : Int) < f.regs := by rw [Hn.out]; omega
     have Hsr := lh (Hso.out.up Hb7.out hz7)
     have Hvr := lh (Hvo.out.up Hb7.out hz7)
     have hst := q4c (C a) b
     have hrx := q2k (C a) b
     obtain ⟨y, hy⟩ := nmm (C (a : Int) (b : Int))
     have hyc : y = true ↔ Clash f (a : Int) (b : Int) := by rw [hy]; exact HC.out _ _
     rw [<- hy] at hst
     obtain ⟨Hyc, Hst⟩ := lh2 hyc hst
     generalize hL1 : rowX (C a) b = L1 at *
     generalize hL2 : rowX (C a) (b + 1) = L2 at *
     obtain ⟨HL2, Hll⟩ := lh2 hL2 hrx
     clear hL1 hL2 hst hrx hy hyc hXr
     go_upto_region 14 with fail
     go_cut [48] (fun s wx => s = .bool y ∧ Hid (Below wr.heap.size wr wx))
     case first =>
      by_cases hab : a = b
      ·subst hab
       have hy0 : y = false := by
        cases hyy : y
        ·rfl
        ·exact absurd rfl (Hyc.out.1 hyy).2.2.1
       have g1 : ((a : Int) == (a : Int)) = true := by simp
       subst hy0
       go_wp2
       go_meet
       exact ⟨rfl, lh (Below.refl _ _)⟩
      ·have g1 : ((a : Int) == (b : Int)) = false := by simp; omega
       have g2 : ((a : Int) != (b : Int)) = true := by simp; omega
       have g3 : ¬ (a : Int) = (b : Int) := by omega
       have Hab := lh hab
       clear hab
       go_wp2_with fail
       refine q7y L f n a b hlt hltb hn1 _ _ _ _ Hlen.out Hnb.out _ Hsr.out Hvr.out _ (fun w8 q hb8 hq => ?_)
       have hyq : y = q := by
        rw [Bool.eq_iff_iff, Hyc.out, hq]
        exact qf7 Hfo.out HL.out Hab.out
       obtain ⟨Hyq, Hb8⟩ := lh2 hyq hb8
       clear hb8 hq hyq x0 x1 x2 x3 lX
       go_wp2
       go_meet
       exact ⟨by rw [Hyq.out], Hb8⟩
     case rest =>
      obtain ⟨rfl, Hb8⟩ := hcut
      rename World => w8
      clear x0 x1 x2 x3 lX
      have HO8 := lh (q0e HO.out Hb8.out)
      have Hb9 := lh (Hb7.out.trans (Hb8.out.mono hz7))
      have hz9 := Hb9.out.size
      clear HO
      cases y
      ·rw [if_neg (by decide), List.append_nil] at Hst
       have HO9 : Hid (w8.ownsRow wo.heap.size 3 1 (.slice rA L1.length rc) L2.length (L2.flatMap qf)) := lh (by rw [Hst.out]; exact HO8.out)
       clear HO8
       go_wp2
       go_roundg (n - (b + 1))
       case measure => omega
       case rel => exact ⟨b + 1, hltb, rfl, by go_num, by rw [HL2.out]; exact HO9, Hb9⟩
      ·rw [if_pos rfl] at Hst
       go_wp2_with (at_builtin; refine wpList_append_own _ rfl _ _ 26 rfl wo.heap.size 3 i0 _ 1 8 Tryz.underlying26 hi0 hz0' hz1' hz2' rfl (by decide) (.slice rA L1.length rc) L1.length (L1.flatMap qf) rfl (HO8.out.alloc _) ⟨w8.heap.size, 0, none⟩ 1 1 [.int .i64 (b : Int)] rfl rfl ?_ ?_ ?_ ?_ ?_ ?_)
       any_goals have hll := Hll.out
       any_goals first | exact World.news_of_block (cs := #[.int .i64 (b : Int)]) (t := 3) (fr := (0, 0)) (heap_alloc_new w8 _) | (simp [Value.oneCell']; done) | (unfold maxLen; omega) | omega | (simp; done) | (simp; omega)
       intro v' w9 hown9 hgrow _
       have hbz : Below wo.heap.size wo w9 := (Hb9.out.alloc hz9 (Obj.cells #[.int .i64 (b : Int)] 3)).grown hgrow (by simp; omega) (fun j e => (HO8.out.lt j e).1)
       have hO9 : w9.ownsRow wo.heap.size 3 1 v' L2.length (L2.flatMap qf) := by
        rw [Hst.out, List.length_append, List.flatMap_append]
        exact hown9
       obtain ⟨Hbz, HO9⟩ := lh2 hbz hO9
       clear hown9 hgrow hbz hO9 HO8 hll
       go_wp2
       go_roundg (n - (b + 1))
       case measure => omega
       case rel => exact ⟨b + 1, hltb, rfl, by go_num, by rw [HL2.out]; exact HO9, Hbz⟩
    ·obtain rfl : b = n := by omega
     have b1 : ¬ (b : Int) < f.regs := by rw [Hn.out]; omega
     obtain ⟨T, hT⟩ := nmm (rowX (C a) b)
     have hnx : (rowsC C b |>.take (a + 1)) = (rowsC C b |>.take a) ++ [T] := by
      have hrl : (rowsC C b).length = b := by unfold rowsC; rw [List.length_map, q1g]
      rw [List.take_succ_eq_append_getElem (by rw [hrl]; exact hlt), hT]
      congr 2
      unfold rowsC
      rw [List.getElem_map]
      have h1 := q6p hlt
      rw [(List.getElem?_eq_some_iff.1 h1).2]
     rw [<- hT] at HO ⊢
     obtain ⟨m5, hm5⟩ := nmm (T.length)
     rw [<- hm5] at HO ⊢
     obtain ⟨HCt, Hm5⟩ := lh2 hnx hm5
     obtain ⟨Y, hY⟩ := nmm (Obj.cells #[.slice rA m5 rc] 26)
     have HBu0 := lh ((Hbu.out.below Hb7.out (Nat.le_refl _)).alloc Y)
     have HBo : Hid ((wr.alloc Y).ownsRow w6.heap.size 26 1 (.slice A7 a n7) a css.flatten) := lh (by have := HBu0.out.own; rw [Htl.out] at this; exact this)
     have Hap : Hid (Apart rpInt.slice (fun b => b < w6.heap.size) (wr.alloc Y) (.slice A7 a n7) T [.slice rA m5 rc]) := lh (Apart.of_only (base := wo.heap.size) ⟨_, rfl, by
      have h0 : (only (wr.alloc Y) fun k => decide (wo.heap.size ≤ k)).ownsRow wo.heap.size 3 1 (.slice rA m5 rc) T.length (T.flatMap qf) := q3h (by have := HO.out.alloc Y; rw [Hm5.out] at this ⊢; exact this)
      exact Rp.SL.of_own (r := rpInt) (f := qf) (fun _ _ _ => rfl) (fun _ => rfl) h0 (by rw [q2o]; exact Nat.le_refl _)⟩ (fun j hj => by have hj : j < w6.heap.size := hj; omega) (fun j hj => (Hbu.out.own.lt j hj).2))
     have HbX : Hid (Below wo.heap.size wo (wr.alloc Y)) := lh (Hb7.out.alloc hz7 Y)
     subst hY
     clear hT hm5 hnx x0 x1 x3 hXr
     go_wp2_with (at_builtin; refine wpList_append_lies _ rfl _ _ 87 rfl w6.heap.size 26 iB _ 1 24 Tryz.underlying87 hiB zB0 zB1 zB2 rfl (by decide) (.slice A7 a n7) a css.flatten rfl HBo.out ⟨wr.heap.size, 0, none⟩ 1 1 [.slice rA m5 rc] rfl rfl ?_ ?_ (by decide) ?_ ?_ ?_ _ rfl ?_)
     any_goals (first | exact World.news_of_block (cs := #[.slice rA m5 rc]) (t := 26) (fr := (0, 0)) (heap_alloc_new _ _) | (simp [Value.oneCell']; done) | (unfold maxLen; omega) | omega | (simp; done) | (simp; omega))
     intro gb cap w9 hown9 hgrow9 hat9 hlt9
     have HB9 := lh (HBu0.out.push hown9 (by rw [Htl.out]) hgrow9 (by simpa using hat9) Hap.out)
     have Hbel9 := lh (Hbel.out.trans ((HbX.out.mono hz).trans ((Grew.of_grown hgrow9).below (B := w6.heap.size) (fun i hi e => by have := (Hbu.out.own.lt i e).1; omega) (by simp; omega))))
     clear hown9 hgrow9 hat9 hlt9 HBu0 HBo Hap
     go_wp2
     go_roundg (b - (a + 1))
     case measure => omega
     case rel => exact ⟨a + 1, _, hlt, rfl, by go_num, lh (by rw [HCt.out]; exact HB9.out), Hbel9⟩
  ·obtain rfl : a = n := by omega
   have a1 : ¬ (a : Int) < f.regs := by rw [Hn.out]; omega
   have hsl : rpInt.slice.SLF wr w6.heap.size wr.heap.size (rowsC C a) (.slice A7 a n7) := by
    have h1 := Hbu.out.SLF (fun k h => h) (Nat.le_refl _) (Nat.le_refl _)
    rwa [List.take_of_length_le (by rw [hrl]; exact Nat.le_refl _)] at h1
   have hFr := (Hbel.out.block _ (qc HF6.out)).trans HF6.out
   obtain ⟨f0, f1, lF⟩ := cbl hFr
   have y0 := fzz hFr 0
   have y1 := fzz hFr 1
   have hbw : Below w.heap.size w wr := Hb6.out.trans (Hbel.out.mono hz6)
   have Hbl := lh (qr hbw [(⟨w.heap.size + 1, 0, none⟩, .int .i64 0), (⟨w.heap.size + 1, 1, none⟩, .int .i64 0)] (by simp))
   have hF6 := qc HF6.out
   have hslz := ((hsl.setCell ⟨w.heap.size + 1, 0, none⟩ (by show w.heap.size + 1 < w6.heap.size; omega) (.int .i64 0)).setCell ⟨w.heap.size + 1, 1, none⟩ (by show w.heap.size + 1 < w6.heap.size; omega) (.int .i64 0)).more hz6 (Nat.le_refl _)
   have Hslz : Hid (rpInt.slice.SLF ((wr.setCell ⟨w.heap.size + 1, 0, none⟩ (.int .i64 0)).setCell ⟨w.heap.size + 1, 1, none⟩ (.int .i64 0)) w.heap.size ((wr.setCell ⟨w.heap.size + 1, 0, none⟩ (.int .i64 0)).setCell ⟨w.heap.size + 1, 1, none⟩ (.int .i64 0)).heap.size (rowsC C a) (.slice A7 a n7)) := lh (by
    have e : ((wr.setCell ⟨w.heap.size + 1, 0, none⟩ (.int .i64 0)).setCell ⟨w.heap.size + 1, 1, none⟩ (.int .i64 0)).heap.size = wr.heap.size := by simp [World.setCell]
    rw [e]
    exact hslz)
   clear hsl hslz hbw hFr hXr hrl htl
   go_wp2
   refine bodyPost_ret (v := .tuple #[.slice A7 a n7, (.agg #[.int .i64 (((0 : Int), (0 : Int))).1, .int .i64 (((0 : Int), (0 : Int))).2])]) (by simp [results, Tryz.results47, go_sem, f0, f1, lF]) rfl ?_
   exact HR.out _ _ Hbl.out Hslz.out
def AcP (f : UFun) (L : Nat -> Nat -> Int -> Bool) (r i k : Nat) : Prop := ∃ blk x, f.blocks[i]? = some blk ∧ blk.list[k]? = some x ∧ x.op = 20 ∧ x.dst ≠ (r : Int) ∧ L i (k + 1) (r : Int) = true
theorem qd2 {f : UFun} {L : Nat -> Nat -> Int -> Bool} (hL : ∀ i k a, L i k a = true ↔ LvI f a i k) (r : Nat) : q5t f (r : Int) ↔ ∃ i k, AcP f L r i k := by
 constructor
 ·rintro ⟨i, k, blk, x, h1, h2, h3, h4, h5⟩
  exact ⟨i, k, blk, x, h1, h2, h3, h4, (hL _ _ _).2 h5⟩
 ·rintro ⟨i, k, blk, x, h1, h2, h3, h4, h5⟩
  exact ⟨i, k, blk, x, h1, h2, h3, h4, (hL _ _ _).1 h5⟩
theorem row_at {f : UFun} {L : Nat -> Nat -> Bool} {B : Nat} {w : World} {A : Option Addr} {c : Nat} (h : rpBool.slice.SL w B (q08 f L) (.slice A f.blocks.length c)) {i k : Nat} (hi : i < f.blocks.length) (hk : k ≤ lenB f i) :
 ∃ b2 o2 b3 o3 c3, A = some ⟨b2, o2, none⟩ ∧ b2 < B ∧ b3 < B ∧ w.cell? ⟨b2, o2 + i, none⟩ = some (.slice (some ⟨b3, o3, none⟩) (lenB f i + 1) c3) ∧ w.cell? ⟨b3, o3 + k, none⟩ = some (.bool (L i k)) := by
 have e2 : (q08 f L).length = f.blocks.length := by unfold q08; simp
 obtain ⟨b2, o2, u2, hA, hb2, h2, hs2⟩ := q3e h (k := i) (by rw [e2]; exact hi)
 have g2 : (q08 f L)[i]'(by rw [e2]; exact hi) = (List.range (lenB f i + 1)).map fun k => L i k := by unfold q08; simp
 rw [g2] at hs2
 have e3 : ((List.range (lenB f i + 1)).map fun k => L i k).length = lenB f i + 1 := by simp
 obtain ⟨A3, c3, rfl, _, _, hs2⟩ := hs2.cases_
 rw [e3] at h2 hs2
 obtain ⟨b3, o3, rfl, hb3, h3⟩ := hs2.bool_at (k := k) (by rw [e3]; omega)
 have g3 : bAt ((List.range (lenB f i + 1)).map fun k => L i k) k = L i k := by
  unfold bAt
  rw [List.getD_eq_getElem?_getD, List.getElem?_map, List.getElem?_range (by omega)]
  rfl
 rw [g3] at h3
 exact ⟨b2, o2, b3, o3, c3, hA, hb2, hb3, h2, h3⟩
theorem q8k (Ac : Int -> Bool) (L : Nat -> Nat -> Int -> Bool) (u : Unt) (hu : UntI u) (k : Nat) (f : UFun) (hok : qp u = (0, 0)) (hkf : u.funcs[k]? = some f) (hnp : ∀ b ∈ f.blocks, b.phis = []) (n : Nat) (hn : f.regs = (n : Int)) (hlen : ∀ b ∈ f.blocks, b.list.length ≤ 300) (hL : ∀ i k a, L i k a = true ↔ LvI f a i k) (gA fA : Option Addr) (gn gc fc : Nat) (w : World) (hW : Ways w) (hg : rpGlobal.SL w w.heap.size u.globals (.slice gA gn gc)) (hf : rpFun.SL w w.heap.size u.funcs (.slice fA u.funcs.length fc)) (R : Ending -> World -> Prop)
 (hA : ∀ z, Ac z = true ↔ q5t f z)
 (hR : ∀ w' v', Below w.heap.size w w' -> w'.ownsRow w.heap.size 3 1 v' (rowX Ac n).length ((rowX Ac n).flatMap qf) -> R (.returned (.tuple #[v', (.agg #[.int .i64 (((0 : Int), (0 : Int))).1, .int .i64 (((0 : Int), (0 : Int))).2])])) w') :
 Calls Tryz.prog 48 #[.agg #[.slice gA gn gc, .slice fA u.funcs.length fc], .int .i64 (k : Int)] w R := by
 have hfo := funOk hok hkf
 have hn1 : n ≤ 100 := by have := hfo.regs.2; omega
 have hcl := q5b hok hkf hnp
 obtain ⟨hku, hfk⟩ := List.getElem?_eq_some_iff.1 hkf
 obtain ⟨bf, offf, vb, hfA, hbf, hsb, qf0, qf1, qf2, qf3⟩ := hf.fun_at hku
 subst hfA
 rw [hfk] at qf0 qf1 qf2 hsb
 obtain ⟨bA, bc, rfl, _, _, hsb⟩ := hsb.cases_
 have k0 := nnn k
 have k1 : (k : Int) < (u.funcs.length : Int) := by omega
 obtain ⟨HR, Hg, Hf, HW, Hn, HL, HCL, Hfo, Hsb, Hlen, HA⟩ := lh11 hR hg hf hW hn hL hcl hfo hsb hlen hA
 clear hR hg hf hW hok hkf hnp hn hL hcl hfo hsb hfk hlen
 go_enter Tryz.func48, Tryz.ntmps48
 go_upto_region 1 with fail
 obtain ⟨W2, hW2, hb2, hU2, hF2⟩ := box2 w (.cells #[.slice gA gn gc, .slice (some ⟨bf, offf, none⟩) u.funcs.length fc] 25) (.cells #[.int .i64 0, .int .i64 0] 30) rfl
 rw [<- hW2]
 obtain ⟨Hb2, HU2, HF2⟩ := lh3 hb2 hU2 hF2
 have hz2 := hb2.size
 obtain ⟨u0, u1, lU⟩ := cbl hU2
 clear hW2 hb2 hU2 hF2
 go_wp2_with fail
 refine q2b u hu (k : Int) _ _ _ _ _ _ _ (HW.out.up Hb2.out HW.out.1) (Hg.out.up Hb2.out hz2) (Hf.out.up Hb2.out hz2) _ (fun w3 hb3 => ?_)
 rw [HCL.out]
 have Hb3 := btt Hb2 hb3 hz2
 have HU3 := bkk hb3 HU2
 have HF3 := bkk hb3 HF2
 have hz3 := Hb3.out.size
 clear hb3 u0 u1 lU
 obtain ⟨E, hE⟩ := nmm (w3.heap.size)
 obtain ⟨W4, hW4, hb34, hE4⟩ := box1 w3 (.cells #[.int .i64 0, .int .i64 0] 30) hE
 have Hb4 := btt Hb3 hb34 hz3
 have HU4 := bkk hb34 HU3
 have HF4 := bkk hb34 HF3
 have HW4 := lh hW4.symm
 have HEs : Hid (w.heap.size + 1 < E) := lh (by rw [hE]; exact qc HF3.out)
 obtain ⟨HEe, HE4⟩ := lh2 hE hE4
 have hz4 := Hb4.out.size
 clear hW4 hb34 hE4 hE
 obtain ⟨e0, e1, lE⟩ := cbl HE4.out
 obtain ⟨f0, f1, lF⟩ := cbl HF4.out
 obtain ⟨u0, u1, lU⟩ := cbl HU4.out
 have y0 := fzz HF4.out 0
 have y1 := fzz HF4.out 1
 have n1 : w.heap.size + 1 ≠ E := by have := HEs.out; omega
 have n2 : E ≠ w.heap.size + 1 := by omega
 go_upto_region 2 with fail
 rw [<- HEe.out, HW4.out]
 have p0 := (Hb4.out.cell (p := ⟨bf, offf + k * 4, none⟩) hbf).trans qf0
 have p1 := (Hb4.out.cell (p := ⟨bf, offf + k * 4 + 1, none⟩) hbf).trans qf1
 have p2 := (Hb4.out.cell (p := ⟨bf, offf + k * 4 + 2, none⟩) hbf).trans qf2
 have p3 := (Hb4.out.cell (p := ⟨bf, offf + k * 4 + 3, none⟩) hbf).trans qf3
 have lbf : bf < W4.heap.size := by omega
 obtain ⟨X, hX⟩ := nmm (W4.heap.size)
 obtain ⟨W5, hW5, hb45, hX5⟩ := box1 W4 (.cells #[.string f.name, .int .i64 f.params, .int .i64 f.regs, .slice bA f.blocks.length bc] 56) hX
 have Hb5 := btt Hb4 hb45 hz4
 have HF5 := bkk hb45 HF4
 have HX5 := lh hX5
 have HW5 := lh hW5.symm
 have HXe := lh hX
 have hz5 := Hb5.out.size
 clear hW5 hb45 hX5 hX
 go_upto_region 5 with fail
 rw [<- HXe.out, HW5.out]
 clear e0 e1 lE f0 f1 lF u0 u1 lU y0 y1 n1 n2 p0 p1 p2 p3 lbf
 have Hs5 := lh (Hsb.out.up Hb5.out hz5)
 have hnb : 1 ≤ f.blocks.length ∧ f.blocks.length ≤ 40 := Hfo.out.blocks
 have Hnb := lh hnb
 obtain ⟨hnb1, hnb2⟩ := hnb
 obtain ⟨i0, hi0, hz0', hz1', hz2'⟩ := info_parts q1v
 have HO0 : Hid (W5.ownsRow W5.heap.size 3 1 (.slice none 0 0) (rowX Ac 0).length ((rowX Ac 0).flatMap qf)) := lh (World.ownsRow_nil _ _ _ _)
 go_wp2
 go_loopg [8, 9] n (fun gh s8 s9 wr => ∃ r : Nat, r ≤ n ∧ gh = n - r ∧ s9 = .int .i64 (r : Int) ∧ Hid (wr.ownsRow W5.heap.size 3 1 s8 (rowX Ac r).length ((rowX Ac r).flatMap qf)) ∧ Hid (Below W5.heap.size W5 wr))
 case atStart => exact ⟨0, Nat.zero_le _, rfl, rfl, HO0, lh (Below.refl _ _)⟩
 case round =>
  clear HO0
  obtain ⟨r, hr, rfl, rfl, HO, Hbel⟩ := hrel
  have hz := Hbel.out.size
  have r0 := nnn r
  have hXr := (Hbel.out.block _ (qc HX5.out)).trans HX5.out
  obtain ⟨x0, x1, x2, x3⟩ := cq4 hXr
  have lX := qc hXr
  obtain ⟨rA, rc, hsr⟩ := qn HO.out
  subst hsr
  by_cases hlt : r < n
  ·have r1 : (r : Int) < f.regs := by rw [Hn.out]; omega
   have Hsr := lh (Hs5.out.up Hbel.out hz)
   have hst := q4c Ac r
   have hrx := q2k Ac r
   obtain ⟨y, hy⟩ := nmm (Ac (r : Int))
   have hyc : y = true ↔ ∃ i k, AcP f L r i k := by rw [hy, HA.out]; exact qd2 HL.out r
   rw [<- hy] at hst
   obtain ⟨Hyc, Hst⟩ := lh2 hyc hst
   generalize hL1 : rowX Ac r = L1 at *
   generalize hL2 : rowX Ac (r + 1) = L2 at *
   obtain ⟨HL2, Hll, HXr⟩ := lh3 hL2 hrx hXr
   clear hL1 hL2 hst hrx hy hyc hXr
   go_wp2_with fail
   refine q41 L f r _ _ Hlen.out Hnb.out Hfo.out.to HL.out _ Hsr.out _ (fun w6 v6 hb6 hsl6 => ?_)
   obtain ⟨lA, lc, rfl, _, _, hsl6⟩ := hsl6.cases_
   have e2 : (q08 f (fun i k => L i k (r : Int))).length = f.blocks.length := by unfold q08; simp
   rw [e2] at hsl6 ⊢
   have Hv6 := lh hsl6.SL
   have Hb6 := btt Hbel hb6 hz
   have HX6 := bkk hb6 HXr
   have Hs6 := lh (Hsr.out.up hb6 hb6.size)
   have HO6 := lh (q0e HO.out hb6)
   have hz6 := Hb6.out.size
   have H00 : Hid (false = true ↔ ∃ i k, i < 0 ∧ AcP f L r i k) := lh ⟨fun h => (by cases h), fun ⟨i, k, h, _⟩ => absurd h (Nat.not_lt_zero i)⟩
   clear hb6 hsl6 e2 x0 x1 x2 x3 lX HO HXr
   go_wp2
   go_loopg [11, 12] f.blocks.length (fun gh s11 s12 wr => ∃ (i : Nat) (q : Bool), i ≤ f.blocks.length ∧ gh = f.blocks.length - i ∧ s11 = .bool q ∧ s12 = .int .i64 (i : Int) ∧ Hid (q = true ↔ ∃ i' k, i' < i ∧ AcP f L r i' k) ∧ Hid (Below w6.heap.size w6 wr))
   case atStart => exact ⟨0, false, Nat.zero_le _, rfl, rfl, rfl, H00, lh (Below.refl _ _)⟩
   case round =>
    clear H00
    obtain ⟨i, q, hi, rfl, rfl, rfl, HQ, Hb7⟩ := hrel
    have hz7 := Hb7.out.size
    have i1 := nnn i
    have hX7 := (Hb7.out.block _ (qc HX6.out)).trans HX6.out
    have x3 : wr.cell? ⟨X, 3, none⟩ = some (.slice bA f.blocks.length bc) := cqq hX7
    have lX := qc hX7
    by_cases hlti : i < f.blocks.length
    ·have i2 : (i : Int) < (f.blocks.length : Int) := by omega
     obtain ⟨bb, off, vp, vl, vt, rfl, hbb, _, hl, _, _, q1, _, _, _, _⟩ := Hs6.out.blk_at hlti
     obtain ⟨Al, cl, rfl, hlm, _, hl⟩ := hl.cases_
     have hge : f.blocks[i]? = some f.blocks[i] := List.getElem?_eq_getElem hlti
     have hll := Hlen.out _ (List.getElem_mem hlti)
     have hle := q7g hlti
     generalize f.blocks[i] = bk at *
     obtain ⟨Hl, Hge, Hle, Hq2, HX7⟩ := lh5 hl hge hle q1 hX7
     have HP0 : Hid (q = true ↔ (∃ i' k, i' < i ∧ AcP f L r i' k) ∨ ∃ k, k < 0 ∧ AcP f L r i k) := lh (by
      rw [HQ.out]
      exact ⟨fun h => .inl h, fun h => h.resolve_right (fun ⟨k, hk, _⟩ => absurd hk (Nat.not_lt_zero k))⟩)
     obtain ⟨wo, hwo⟩ := nmm (wr)
     rw [<- hwo] at HX7 Hb7 hz7 x3 lX ⊢
     clear hwo hge hle q1 hX7 hl HQ
     go_wp2
     clear x3 lX
     go_loopg [11, 13] bk.list.length (fun gh s11 s13 wr => ∃ (k : Nat) (q : Bool), k ≤ bk.list.length ∧ gh = bk.list.length - k ∧ s11 = .bool q ∧ s13 = .int .i64 (k : Int) ∧ Hid (q = true ↔ (∃ i' k', i' < i ∧ AcP f L r i' k') ∨ ∃ k', k' < k ∧ AcP f L r i k') ∧ Hid (Below wo.heap.size wo wr))
     case atStart => exact ⟨0, q, Nat.zero_le _, rfl, rfl, rfl, HP0, lh (Below.refl _ _)⟩
     case round =>
      clear HP0
      obtain ⟨k, q, hk, rfl, rfl, rfl, HP, Hb3⟩ := hrel
      have hzr3 := Hb3.out.size
      have Hb4 := lh (Hb7.out.trans (Hb3.out.mono hz7))
      have k1 := nnn k
      have hX8 := (Hb3.out.block _ (qc HX7.out)).trans HX7.out
      have x3 : wr.cell? ⟨X, 3, none⟩ = some (.slice (some ⟨bb, off, none⟩) f.blocks.length bc) := cqq hX8
      have lX := qc hX8
      have p1 := (Hb4.out.cell (p := ⟨bb, off + i * 6 + 1, none⟩) hbb).trans Hq2.out
      have lbb : bb < wr.heap.size := by omega
      by_cases hltk : k < bk.list.length
      ·have k2 : (k : Int) < (bk.list.length : Int) := by omega
       have HlR := lh (Hl.out.up Hb4.out (by omega : w6.heap.size ≤ wr.heap.size))
       obtain ⟨b5, off5, va, rfl, hb5, hva, e0, e1, e2, e3, e4, e5, e6, e7⟩ := HlR.out.ins_at hltk
       obtain ⟨Aa, ca, rfl, ham, _, hva⟩ := hva.cases_
       have hxk : bk.list[k]? = some bk.list[k] := List.getElem?_eq_getElem hltk
       generalize bk.list[k] = x at *
       have Hxk := lh hxk
       obtain ⟨E', hE⟩ := nmm (wr.heap.size)
       obtain ⟨W9, hW9, hb9, hX9⟩ := box1 wr (.cells #[.int .i64 x.op, .int .i64 x.dst, .bool x.a.reg, .int .i64 x.a.n, .bool x.b.reg, .int .i64 x.b.n, .int .i64 x.fn, .slice Aa x.args.length ca] 71) hE
       have Hb9 := btt Hb3 hb9 hzr3
       have Hv9 := lh (Hv6.out.up (Hb4.out.trans (hb9.mono (by omega))) (by have := hb9.size; omega : w6.heap.size ≤ W9.heap.size))
       have HW9 := lh hW9.symm
       have HEe := lh hE
       have d0 : W9.cell? ⟨E', 0, none⟩ = some (.int .i64 x.op) := cqq hX9
       have d1 : W9.cell? ⟨E', 1, none⟩ = some (.int .i64 x.dst) := cqq hX9
       have lE' := qc hX9
       have hkl : k + 1 ≤ lenB f i := by rw [Hle.out]; exact hltk
       have hcd : AcP f L r i k ↔ (x.op = 20 ∧ x.dst ≠ (r : Int) ∧ L i (k + 1) (r : Int) = true) := by
        unfold AcP
        constructor
        ·rintro ⟨blk, y, h1, h2, h3⟩
         rw [Hge.out] at h1
         injection h1 with h1
         subst h1
         rw [Hxk.out] at h2
         injection h2 with h2
         subst h2
         exact h3
        ·exact fun h3 => ⟨_, _, Hge.out, Hxk.out, h3⟩
       obtain ⟨kk, hkk⟩ := nmm (k + 1)
       have ek : (k : Int) + 1 = (kk : Int) := by omega
       rw [<- hkk] at hkl hcd
       obtain ⟨p2, o2, p3, o3, c3, rfl, l2, l3, z2, z3⟩ := row_at Hv9.out hlti hkl
       obtain ⟨n1, hn1'⟩ := nmm (lenB f i + 1)
       have hk0 := nnn kk
       have hkn : (kk : Int) < (n1 : Int) := by rw [hn1']; exact Int.ofNat_lt.2 (Nat.lt_succ_of_le hkl)
       rw [<- hn1'] at z2
       generalize L i kk (r : Int) = lv at *
       obtain ⟨q2, hq2⟩ : ∃ q2 : Bool, q2 = true ↔ (q = true ∨ AcP f L r i k) := by
        by_cases hh : q = true ∨ AcP f L r i k
        ·exact ⟨true, by simp [hh]⟩
        ·exact ⟨false, by simp only [hh]; decide⟩
       have HP2 : Hid (q2 = true ↔ (∃ i' k', i' < i ∧ AcP f L r i' k') ∨ ∃ k', k' < k + 1 ∧ AcP f L r i k') := lh (by
        rw [hq2, HP.out]
        constructor
        ·rintro ((h | ⟨k', h1, h2⟩) | h)
         ·exact .inl h
         ·exact .inr ⟨k', by omega, h2⟩
         ·exact .inr ⟨k, by omega, h⟩
        ·rintro (h | ⟨k', h1, h2⟩)
         ·exact .inl (.inl h)
         ·rcases Nat.lt_or_ge k' k with h3 | h3
          ·exact .inl (.inr ⟨k', h3, h2⟩)
          ·have e : k' = k := by omega
           subst e
           exact .inr h2)
       have hq3 : q2 = true ↔ (q = true ∨ (x.op = 20 ∧ x.dst ≠ (r : Int) ∧ lv = true)) := by rw [hq2, hcd]
       have Hq3 := lh hq3
       clear hW9 hb9 hX9 hE hxk hva hX8 hkk hcd hn1' hq2 hq3 HP
       go_upto_region 18 with fail
       rw [<- HEe.out, HW9.out]
       clear e0 e1 e2 e3 e4 e5 e6 e7 x3 lX p1 lbb
       cases q
       ·by_cases h1 : x.op = 20
        ·have g1 : (x.op == 20) = true := by simpa using h1
         by_cases h2 : x.dst = (r : Int)
         ·have g2 : (x.dst != (r : Int)) = false := by simpa using h2
          have g3 : (x.dst == (r : Int)) = true := by simpa using h2
          have hz0 : q2 = false := by
           cases hzz : q2
           ·rfl
           ·rcases Hq3.out.1 hzz with h | h
            ·cases h
            ·exact absurd h2 h.2.1
          subst hz0
          clear h1 h2
          go_wp2
          go_roundg (bk.list.length - (k + 1))
          case measure => omega
          case rel => exact ⟨k + 1, _, hltk, rfl, rfl, by go_num, (by first | exact HP2 | exact lh (by simpa using HP2.out)), Hb9⟩
         ·have g2 : (x.dst != (r : Int)) = true := by simpa using h2
          have g3 : (x.dst == (r : Int)) = false := by simpa using h2
          have hz0 : q2 = lv := by
           rw [Bool.eq_iff_iff, Hq3.out]
           exact ⟨fun h => (h.resolve_left (by decide)).2.2, fun h => .inr ⟨h1, h2, h⟩⟩
          subst hz0
          clear h1 h2
          go_wp2
          go_roundg (bk.list.length - (k + 1))
          case measure => omega
          case rel => exact ⟨k + 1, _, hltk, rfl, rfl, by go_num, (by first | exact HP2 | exact lh (by simpa using HP2.out)), Hb9⟩
        ·have g1 : (x.op == 20) = false := by simpa using h1
         have hz0 : q2 = false := by
          cases hzz : q2
          ·rfl
          ·rcases Hq3.out.1 hzz with h | h
           ·cases h
           ·exact absurd h.1 h1
         subst hz0
         clear h1
         go_wp2
         go_roundg (bk.list.length - (k + 1))
         case measure => omega
         case rel => exact ⟨k + 1, _, hltk, rfl, rfl, by go_num, (by first | exact HP2 | exact lh (by simpa using HP2.out)), Hb9⟩
       ·have hz0 : q2 = true := Hq3.out.2 (.inl rfl)
        subst hz0
        go_wp2
        go_roundg (bk.list.length - (k + 1))
        case measure => omega
        case rel => exact ⟨k + 1, _, hltk, rfl, rfl, by go_num, (by first | exact HP2 | exact lh (by simpa using HP2.out)), Hb9⟩
      ·obtain rfl : k = bk.list.length := by omega
       have k2 : ¬ (bk.list.length : Int) < (bk.list.length : Int) := by omega
       have HQ2 : Hid (q = true ↔ ∃ i' k, i' < i + 1 ∧ AcP f L r i' k) := lh (by
        rw [HP.out]
        constructor
        ·rintro (⟨i', k, h1, h2⟩ | ⟨k, h1, h2⟩)
         ·exact ⟨i', k, by omega, h2⟩
         ·exact ⟨i, k, by omega, h2⟩
        ·rintro ⟨i', k, h1, h2⟩
         rcases Nat.lt_or_ge i' i with h3 | h3
         ·exact .inl ⟨i', k, h3, h2⟩
         ·have e : i' = i := by omega
          subst e
          right
          refine ⟨k, ?_, h2⟩
          obtain ⟨blk, y, h4, h5, _⟩ := h2
          rw [Hge.out] at h4
          injection h4 with h4
          subst h4
          exact (List.getElem?_eq_some_iff.1 h5).1)
       clear HP hX8
       go_wp2
       go_roundg (f.blocks.length - (i + 1))
       case measure => omega
       case rel => exact ⟨i + 1, q, hlti, rfl, rfl, by go_num, HQ2, Hb4⟩
    ·obtain rfl : i = f.blocks.length := by omega
     have i2 : ¬ (f.blocks.length : Int) < (f.blocks.length : Int) := by omega
     have hqy : q = y := by
      rw [Bool.eq_iff_iff, HQ.out, Hyc.out]
      constructor
      ·rintro ⟨i', k, _, h⟩
       exact ⟨i', k, h⟩
      ·rintro ⟨i', k, h⟩
       refine ⟨i', k, ?_, h⟩
       obtain ⟨blk, y, h4, _⟩ := h
       exact (List.getElem?_eq_some_iff.1 h4).1
     subst hqy
     have HO8 := lh (q0e HO6.out Hb7.out)
     have Hb8 := lh (Hb6.out.trans (Hb7.out.mono hz6))
     have hz8 := Hb8.out.size
     clear HQ hX7
     cases q
     ·rw [if_neg (by decide), List.append_nil] at Hst
      have HO9 : Hid (wr.ownsRow W5.heap.size 3 1 (.slice rA L1.length rc) L2.length (L2.flatMap qf)) := lh (by rw [Hst.out]; exact HO8.out)
      clear HO8 HO6
      go_wp2
      go_roundg (n - (r + 1))
      case measure => omega
      case rel => exact ⟨r + 1, hlt, rfl, by go_num, by rw [HL2.out]; exact HO9, Hb8⟩
     ·rw [if_pos rfl] at Hst
      go_wp2_with (at_builtin; refine wpList_append_own _ rfl _ _ 26 rfl W5.heap.size 3 i0 _ 1 8 Tryz.underlying26 hi0 hz0' hz1' hz2' rfl (by decide) (.slice rA L1.length rc) L1.length (L1.flatMap qf) rfl (HO8.out.alloc _) ⟨wr.heap.size, 0, none⟩ 1 1 [.int .i64 (r : Int)] rfl rfl ?_ ?_ ?_ ?_ ?_ ?_)
      any_goals have hll := Hll.out
      any_goals first | exact World.news_of_block (cs := #[.int .i64 (r : Int)]) (t := 3) (fr := (0, 0)) (heap_alloc_new wr _) | (simp [Value.oneCell']; done) | (unfold maxLen; omega) | omega | (simp; done) | (simp; omega)
      intro v' w9 hown9 hgrow _
      have hbz : Below W5.heap.size W5 w9 := (Hb8.out.alloc hz8 (Obj.cells #[.int .i64 (r : Int)] 3)).grown hgrow (by simp; omega) (fun j e => (HO8.out.lt j e).1)
      have hO9 : w9.ownsRow W5.heap.size 3 1 v' L2.length (L2.flatMap qf) := by
       rw [Hst.out, List.length_append, List.flatMap_append]
       exact hown9
      obtain ⟨Hbz, HO9⟩ := lh2 hbz hO9
      clear hown9 hgrow hbz hO9 HO8 HO6 hll
      go_wp2
      go_roundg (n - (r + 1))
      case measure => omega
      case rel => exact ⟨r + 1, hlt, rfl, by go_num, by rw [HL2.out]; exact HO9, Hbz⟩
  ·obtain rfl : r = n := by omega
   have r1 : ¬ (r : Int) < f.regs := by rw [Hn.out]; omega
   have hFr := (Hbel.out.block _ (qc HF5.out)).trans HF5.out
   obtain ⟨f0, f1, lF⟩ := cbl hFr
   have y0 := fzz hFr 0
   have y1 := fzz hFr 1
   have hbw : Below w.heap.size w wr := Hb5.out.trans (Hbel.out.mono hz5)
   have hF5 := qc HF5.out
   have Hbl := lh (qr hbw [(⟨w.heap.size + 1, 0, none⟩, .int .i64 0), (⟨w.heap.size + 1, 1, none⟩, .int .i64 0)] (by simp))
   have hnb : (Value.slice rA (rowX Ac r).length rc).ownBlock ≠ some (w.heap.size + 1) := fun e => by
    have h1 := (HO.out.lt (w.heap.size + 1) e).1
    omega
   have HOz := lh (q0u (B' := w.heap.size) (qj (qj HO.out (p := ⟨w.heap.size + 1, 0, none⟩) hnb (.int .i64 0)) (p := ⟨w.heap.size + 1, 1, none⟩) hnb (.int .i64 0)) hz5)
   clear hbw hFr hXr hnb HO x0 x1 x3
   go_wp2
   refine bodyPost_ret (v := .tuple #[.slice rA (rowX Ac r).length rc, (.agg #[.int .i64 (((0 : Int), (0 : Int))).1, .int .i64 (((0 : Int), (0 : Int))).2])]) (by simp [results, Tryz.results48, go_sem, f0, f1, lF]) rfl ?_
   exact HR.out _ _ Hbl.out HOz.out
theorem q8x (l m : List Int) (r : Int) : wrap64 (cntW l r + ((m.count r : Nat) : Int)) = cntW (l ++ m) r := by
 unfold cntW
 rw [List.count_append, Int.natCast_add]
 generalize ((List.count r l : Nat) : Int) = a
 generalize ((List.count r m : Nat) : Int) = b
 unfold wrap64
 omega
theorem q8w (v : UVal) (r : Nat) : cntV v r = (((regsV [v]).count (r : Int) : Nat) : Int) := by
 unfold cntV regIs
 rw [q65]
 show _ = ((((if v.reg = true then [v.n] else []) ++ []).count (r : Int) : Nat) : Int)
 rw [List.append_nil]
 cases h : v.reg
 ·simp
 ·by_cases h1 : v.n = (r : Int)
  ·simp [h1]
  ·simp [h1, List.count_singleton]
theorem q8v (v : UVal) (r : Nat) : 0 ≤ cntV v r ∧ cntV v r ≤ 1 := by
 unfold cntV
 split <;> omega
def refX (x : UIns) : List Int := regsV [x.a, x.b] ++ ((if 0 ≤ x.dst then [x.dst] else []) ++ regsV x.args)
def refB (b : UBlk) : List Int := b.list.flatMap refX ++ regsV [b.end_.on]
def refF (f : UFun) : List Int := f.blocks.flatMap refB
theorem qgl {v : UVal} (h : isZ v = true) : regsV [v] = [] := by
 unfold isZ at h
 rw [q65]
 cases hv : v.reg
 ·rfl
 ·rw [hv] at h
  simp at h
theorem qdb {u : Unt} {regs : Int} {x : UIns} (h : InsOk u regs x) (r : Int) : (refX x).count r = (regsX x).count r := by
 have e : regsV (qt x) = regsV [x.a, x.b] ++ regsV x.args := by
  unfold qt
  rw [q1p, q1p, show [x.a, x.b] = [x.a] ++ [x.b] from rfl, q1p, List.append_assoc]
  congr 1
  ·cases ha : opA x.op
   ·rw [qgl (h.noA ha)]; rfl
   ·rfl
  congr 1
  cases hb : opB x.op
  ·rw [qgl (h.noB hb)]; rfl
  ·rfl
 unfold refX regsX
 rw [e]
 simp only [List.count_append]
 omega
theorem q2y {α : Type} {f g : α -> List Int} {l : List α} {r : Int} (h : ∀ x ∈ l, (f x).count r = (g x).count r) : (l.flatMap f).count r = (l.flatMap g).count r := by
 induction l with
 | nil => rfl
 | cons x l ih => rw [List.flatMap_cons, List.flatMap_cons, List.count_append, List.count_append, h x (.head _), ih (fun y hy => h y (.tail _ hy))]
theorem qd9 {u : Unt} {f : UFun} (h : FunOk u f) (r : Int) : (refF f).count r = (regsF f).count r := by
 unfold refF regsF
 refine q2y (fun b hb => ?_)
 unfold refB regsB
 rw [List.count_append, List.count_append, q2y (fun x hx => qdb (h.ins b hb x hx) r)]
theorem qbw {u : Unt} {f : UFun} (h : FunOk u f) (r : Int) : cntW (refF f) r = wgt f r := by
 unfold wgt cntW
 rw [qd9 h]
def rfB (f : UFun) (i : Nat) : List Int := (f.blocks.take i).flatMap refB
def rfI (L : List Int) (l : List UIns) (k : Nat) : List Int := L ++ (l.take k).flatMap refX
theorem qic {f : UFun} {i : Nat} (h : i < f.blocks.length) : rfB f (i + 1) = rfI (rfB f i) f.blocks[i].list f.blocks[i].list.length ++ regsV [f.blocks[i].end_.on] := by
 unfold rfB rfI
 rw [List.take_succ_eq_append_getElem h, List.flatMap_append, List.take_length, List.append_assoc]
 congr 1
 rw [List.flatMap_cons, List.flatMap_nil, List.append_nil]
 rfl
theorem qid {L : List Int} {l : List UIns} {k : Nat} (h : k < l.length) : rfI L l (k + 1) = rfI L l k ++ refX l[k] := by
 unfold rfI
 rw [List.take_succ_eq_append_getElem h, List.flatMap_append, List.append_assoc]
 congr 1
 rw [List.flatMap_cons, List.flatMap_nil, List.append_nil]
theorem q3o (f : UFun) (A : Option Addr) (c : Nat) (r : Nat) (w : World) (h : rpBlk.SL w w.heap.size f.blocks (.slice A f.blocks.length c)) (hb1 : f.blocks.length ≤ 40) (R : Ending -> World -> Prop)
 (hR : ∀ w', Below w.heap.size w w' -> R (.returned (.int .i64 (cntW (refF f) (r : Int)))) w') :
 Calls Tryz.prog 49 #[.agg #[.string f.name, .int .i64 f.params, .int .i64 f.regs, .slice A f.blocks.length c], .int .i64 (r : Int)] w R := by
 obtain ⟨HR, Hs⟩ := lh2 hR h
 clear hR h
 go_enter Tryz.func49, Tryz.ntmps49
 go_upto_region 1 with fail
 obtain ⟨W2, hW2, hb2, hU2⟩ := box1 w (.cells #[.string f.name, .int .i64 f.params, .int .i64 f.regs, .slice A f.blocks.length c] 56) rfl
 rw [<- hW2]
 obtain ⟨Hb2, HU2⟩ := lh2 hb2 hU2
 have Hs2 := lh (Hs.out.up hb2 hb2.size)
 clear hW2 hb2 hU2 Hs
 have hz0 : (0 : Int) = cntW (rfB f 0) (r : Int) := by unfold rfB cntW wrap64; simp
 go_wp2
 go_loopg [5, 6] f.blocks.length (fun gh s5 s6 wr => ∃ i : Nat, i ≤ f.blocks.length ∧ gh = f.blocks.length - i ∧ s5 = .int .i64 (cntW (rfB f i) (r : Int)) ∧ s6 = .int .i64 (i : Int) ∧ Hid (Below W2.heap.size W2 wr))
 case atStart => exact ⟨0, Nat.zero_le _, rfl, by rw [<- hz0], rfl, lh (Below.refl _ _)⟩
 case round =>
  clear hz0
  obtain ⟨i, hi, rfl, rfl, rfl, Hb⟩ := hrel
  have hzr := Hb.out.size
  have i1 := nnn i
  have hUr := (Hb.out.block _ (qc HU2.out)).trans HU2.out
  have x3 : wr.cell? ⟨w.heap.size, 3, none⟩ = some (.slice A f.blocks.length c) := cqq hUr
  have lU := qc hUr
  by_cases hlt : i < f.blocks.length
  ·have i2 : (i : Int) < (f.blocks.length : Int) := by omega
   obtain ⟨b, off, vp, vl, vt, rfl, hbb, _, hl, _, q0, q1, q2, q3, q4, q5⟩ := Hs2.out.blk_at hlt
   obtain ⟨Al, cl, rfl, hlm, _, hl⟩ := hl.cases_
   have Hl := lh hl
   have hnx := qic hlt
   have hst0 : rfI (rfB f i) f.blocks[i].list 0 = rfB f i := by unfold rfI; simp
   generalize hLL : rfB f (i + 1) = L' at *
   generalize hL : rfB f i = L at *
   generalize f.blocks[i] = bk at *
   obtain ⟨HLL, Hnx, Hst0, HU, Hq1, Hq3, Hq4, HB⟩ := lh8 hLL hnx hst0 hUr q1 q3 q4 hbb
   clear hLL hL hnx hst0 q0 q2 q5 hUr hl hbb q1 q3 q4
   obtain ⟨wo, hwo⟩ := nmm (wr)
   rw [<- hwo] at HU Hb hzr x3 lU ⊢
   clear hwo
   go_wp2
   clear x3 lU
   go_loopg [5, 7] bk.list.length (fun gh s5 s7 wr => ∃ k : Nat, k ≤ bk.list.length ∧ gh = bk.list.length - k ∧ s5 = .int .i64 (cntW (rfI L bk.list k) (r : Int)) ∧ s7 = .int .i64 (k : Int) ∧ Hid (Below wo.heap.size wo wr))
   case atStart => exact ⟨0, Nat.zero_le _, rfl, by rw [Hst0.out], rfl, lh (Below.refl _ _)⟩
   case round =>
    clear Hst0
    obtain ⟨k, hk, rfl, rfl, rfl, Hb3⟩ := hrel
    have hzr3 := Hb3.out.size
    have Hb4 := lh (Hb.out.trans (Hb3.out.mono hzr))
    have k1 := nnn k
    have hUr := (Hb3.out.block _ (qc HU.out)).trans HU.out
    have x3 : wr.cell? ⟨w.heap.size, 3, none⟩ = some (.slice (some ⟨b, off, none⟩) f.blocks.length c) := cqq hUr
    have lU := qc hUr
    have p1 := (Hb4.out.cell (p := ⟨b, off + i * 6 + 1, none⟩) HB.out).trans Hq1.out
    have lb : b < wr.heap.size := by have := HB.out; omega
    by_cases hltk : k < bk.list.length
    ·have k2 : (k : Int) < (bk.list.length : Int) := by omega
     have HlR := lh (Hl.out.up Hb4.out (by omega : W2.heap.size ≤ wr.heap.size))
     obtain ⟨b2, off2, va, rfl, hb2, hva, e0, e1, e2, e3, e4, e5, e6, e7⟩ := HlR.out.ins_at hltk
     obtain ⟨Aa, ca, rfl, ham, _, hva⟩ := hva.cases_
     have hnx := qid (L := L) hltk
     have hrx : refX bk.list[k] = regsV [bk.list[k].a, bk.list[k].b] ++ ((if 0 ≤ bk.list[k].dst then [bk.list[k].dst] else []) ++ regsV bk.list[k].args) := rfl
     rw [hrx] at hnx
     generalize hM' : rfI L bk.list (k + 1) = M' at *
     generalize hM : rfI L bk.list k = M at *
     generalize bk.list[k] = x at *
     obtain ⟨HM', Hnx, Hva⟩ := lh3 hM' hnx hva
     clear hM' hM hnx hrx hva
     obtain ⟨X, hX⟩ := nmm (wr.heap.size)
     obtain ⟨W5, hW5, hb5, hX5⟩ := box1 wr (.cells #[.int .i64 x.op, .int .i64 x.dst, .bool x.a.reg, .int .i64 x.a.n, .bool x.b.reg, .int .i64 x.b.n, .int .i64 x.fn, .slice Aa x.args.length ca] 71) hX
     have hz5 : W2.heap.size ≤ wr.heap.size := by omega
     have hz55 := hb5.size
     have Hb5 := btt Hb3 hb5 hzr3
     have HX5 := lh hX5
     have Hva5 := lh (Hva.out.up hb5 hb5.size)
     have HW5 := lh hW5.symm
     clear hb5 hX5 hW5
     go_upto_region 9 with fail
     rw [<- hX, HW5.out]
     clear e0 e1 e2 e3 e4 e5 e6 e7 x3 lU p1 lb
     have lX := qc HX5.out
     have hS0 : W5.cell? ⟨X, 2, none⟩ = some (.bool x.a.reg) ∧ W5.cell? ⟨X, 3, none⟩ = some (.int .i64 x.a.n) ∧ W5.cell? ⟨X, 4, none⟩ = some (.bool x.b.reg) ∧ W5.cell? ⟨X, 5, none⟩ = some (.int .i64 x.b.n) := ⟨by rw [qe HX5.out]; rfl, by rw [qe HX5.out]; rfl, by rw [qe HX5.out]; rfl, by rw [qe HX5.out]; rfl⟩
     have HSS : Hid (∀ W, Below W5.heap.size W5 W -> W.cell? ⟨X, 2, none⟩ = some (.bool x.a.reg) ∧ W.cell? ⟨X, 3, none⟩ = some (.int .i64 x.a.n) ∧ W.cell? ⟨X, 4, none⟩ = some (.bool x.b.reg) ∧ W.cell? ⟨X, 5, none⟩ = some (.int .i64 x.b.n)) := lh fun W hW => ⟨(hW.cell (p := ⟨X, 2, none⟩) lX).trans hS0.1, (hW.cell (p := ⟨X, 3, none⟩) lX).trans hS0.2.1, (hW.cell (p := ⟨X, 4, none⟩) lX).trans hS0.2.2.1, (hW.cell (p := ⟨X, 5, none⟩) lX).trans hS0.2.2.2⟩
     have HXe := lh hX
     clear hX
     obtain ⟨N1, hN1⟩ := nmm (cntW (M ++ regsV [x.a, x.b]) (r : Int))
     go_cut [5] (fun s wx => s = .int .i64 N1 ∧ Hid (Below W5.heap.size W5 wx))
     case first =>
      have hadd := q8x M (regsV [x.a, x.b]) (r : Int)
      have hab : (((regsV [x.a, x.b]).count (r : Int) : Nat) : Int) = cntV x.a r + cntV x.b r := by
       rw [q8w, q8w, show [x.a, x.b] = [x.a] ++ [x.b] from rfl, q1p, List.count_append, Int.natCast_add]
      rw [hab, <- hN1] at hadd
      have Hca := lh (q45 x.a.reg x.a.n r)
      have Hcb := lh (q45 x.b.reg x.b.n r)
      have h1 := q8v x.a r
      have h2 := q8v x.b r
      have heta : (⟨x.a.reg, x.a.n⟩ : UVal) = x.a := rfl
      have hetb : (⟨x.b.reg, x.b.n⟩ : UVal) = x.b := rfl
      rw [heta] at Hca
      rw [hetb] at Hcb
      generalize cntV x.a r = va at *
      generalize cntV x.b r = vb at *
      generalize cntW M (r : Int) = N at *
      obtain ⟨a0, a1⟩ := h1
      obtain ⟨b0, b1⟩ := h2
      have ws : IntKind.i64.wrap (va + vb) = va + vb := IntWalk.i64_in _ (by omega)
      have wn : IntKind.i64.wrap (N + (va + vb)) = N1 := (IntWalk.i64_left _).trans hadd
      clear hab hN1 heta hetb
      go_region_held3 (fun W : World => W.cell? ⟨X, 2, none⟩ = some (.bool x.a.reg) ∧ W.cell? ⟨X, 3, none⟩ = some (.int .i64 x.a.n) ∧ W.cell? ⟨X, 4, none⟩ = some (.bool x.b.reg) ∧ W.cell? ⟨X, 5, none⟩ = some (.int .i64 x.b.n)) (first | with_reducible exact hS0 | with_reducible exact hSa | with_reducible exact hSb | go_keep) (first
       | (go_at_call 87; with_reducible refine Hca.out _ _ ?_; intro wa hba; have hba5 : Below W5.heap.size W5 wa := (by first | with_reducible exact hbb5 | exact bl0 : Below W5.heap.size W5 _).trans (hba.mono (by first | exact hbb5.size | (simp; done))); have hSa := HSS.out wa hba5)
       | (go_at_call 87; with_reducible refine Hcb.out _ _ ?_; intro wb hbb; have hbb5 : Below W5.heap.size W5 wb := (by first | with_reducible exact hba5 | exact bl0 : Below W5.heap.size W5 _).trans (hbb.mono (by first | exact hba5.size | (simp; done))); have hSb := HSS.out wb hbb5))
      go_wp2
      go_meet
      exact ⟨rfl, lh hbb5⟩
     case rest =>
      obtain ⟨rfl, Hb6⟩ := hcut
      rename World => W6
      clear hS0 HSS
      have HX6 := lh ((Hb6.out.block _ lX).trans HX5.out)
      have Hva6 := lh (Hva5.out.up Hb6.out Hb6.out.size)
      have x1 : W6.cell? ⟨X, 1, none⟩ = some (.int .i64 x.dst) := cqq HX6.out
      have lX6 := qc HX6.out
      obtain ⟨M2, hM2⟩ := nmm ((M ++ regsV [x.a, x.b]) ++ (if 0 ≤ x.dst then [x.dst] else []))
      obtain ⟨N2, hN2⟩ := nmm (cntW M2 (r : Int))
      have hy : x.dst = (r : Int) -> wrap64 (N1 + 1) = N2 := fun hd => by
       rw [hN2, hM2, hN1, if_pos (by omega), hd, q7a, if_pos rfl]
      have hn : x.dst ≠ (r : Int) -> N1 = N2 := fun hd => by
       rw [hN2, hM2, hN1]
       split
       ·rw [q7a, if_neg hd]
       ·rw [List.append_nil]
      have hlast : M2 ++ regsV x.args = M' := by
       rw [hM2, Hnx.out, List.append_assoc, List.append_assoc]
      obtain ⟨Hlast, Hy, Hn⟩ := lh3 hlast hy hn
      clear hM2 hy hn hlast hN1
      go_upto_if 51 with fail
      go_cut [5] (fun s wx => s = .int .i64 N2 ∧ wx = W6)
      case first =>
       by_cases hd : x.dst = (r : Int)
       ·have j1 : (x.dst == (r : Int)) = true := by simpa using hd
        have hw := Hy.out hd
        clear hd
        go_wp2
        go_meet
        exact ⟨by first | rfl | rw [hw], rfl⟩
       ·have j1 : (x.dst == (r : Int)) = false := by simpa using hd
        have hw := Hn.out hd
        clear hd
        go_wp2
        go_meet
        exact ⟨by rw [hw], rfl⟩
      case rest =>
       obtain ⟨rfl, hw⟩ := hcut
       subst hw
       rename World => W6
       have hN20 : N2 = cntW (M2 ++ regsV (x.args.take 0)) (r : Int) := by rw [hN2, List.take_zero]; show _ = cntW (M2 ++ []) _; rw [List.append_nil]
       clear x1 hN2
       go_wp2
       go_loopg [5, 9] x.args.length (fun gh s5 s9 wr => ∃ j : Nat, j ≤ x.args.length ∧ gh = x.args.length - j ∧ s5 = .int .i64 (cntW (M2 ++ regsV (x.args.take j)) (r : Int)) ∧ s9 = .int .i64 (j : Int) ∧ Hid (Below W6.heap.size W6 wr))
       case atStart => exact ⟨0, Nat.zero_le _, rfl, by rw [hN20], rfl, lh (Below.refl _ _)⟩
       case round =>
        clear hN20
        obtain ⟨j, hj, rfl, rfl, rfl, Hb7⟩ := hrel
        have hz7 := Hb7.out.size
        have hz6 := Hb6.out.size
        have j1 := nnn j
        have hX7 := (Hb7.out.block _ lX6).trans HX6.out
        have x7 : wr.cell? ⟨X, 7, none⟩ = some (.slice Aa x.args.length ca) := cqq hX7
        have lX7 := qc hX7
        by_cases hltj : j < x.args.length
        ·have j2 : (j : Int) < (x.args.length : Int) := by omega
         have Hva7 := lh (Hva6.out.up Hb7.out Hb7.out.size)
         obtain ⟨b3, off3, rfl, hb3, c0, c1⟩ := Hva7.out.val_at hltj
         have hadd := q8x (M2 ++ regsV (x.args.take j)) (regsV [x.args[j]]) (r : Int)
         have hnx : (M2 ++ regsV (x.args.take j)) ++ regsV [x.args[j]] = M2 ++ regsV (x.args.take (j + 1)) := by
          rw [List.append_assoc, <- q1p, <- List.take_succ_eq_append_getElem hltj]
         rw [hnx, <- q8w] at hadd
         have hci := q8v x.args[j] r
         have hcc := q45 x.args[j].reg x.args[j].n r
         have heta : (⟨x.args[j].reg, x.args[j].n⟩ : UVal) = x.args[j] := rfl
         rw [heta] at hcc
         have Hcc := lh hcc
         generalize cntV x.args[j] r = cv at *
         generalize x.args[j] = vv at *
         generalize hN3 : cntW (M2 ++ regsV (x.args.take (j + 1))) (r : Int) = N3 at *
         generalize cntW (M2 ++ regsV (x.args.take j)) (r : Int) = N4 at *
         obtain ⟨d0, d1⟩ := hci
         have HN3 := lh hN3
         clear hnx hcc heta hN3
         go_wp2_with fail
         refine Hcc.out _ _ (fun w8 hb8 => ?_)
         have Hb8 := btt Hb7 hb8 hz7
         clear hb8 x7 lX7 c0 c1
         go_wp2
         go_roundg (x.args.length - (j + 1))
         case measure => omega
         case rel => exact ⟨j + 1, hltj, rfl, by rw [HN3.out]; first | done | rw [hadd], by go_num, Hb8⟩
        ·obtain rfl : j = x.args.length := by omega
         have j2 : ¬ (x.args.length : Int) < (x.args.length : Int) := by omega
         rw [List.take_length, Hlast.out]
         have Hb8 := lh (Hb5.out.trans ((Hb6.out.trans (Hb7.out.mono hz6)).mono (by omega)))
         go_wp2
         go_roundg (bk.list.length - (k + 1))
         case measure => omega
         case rel => exact ⟨k + 1, hltk, rfl, by rw [HM'.out], by go_num, Hb8⟩
    ·obtain rfl : k = bk.list.length := by omega
     have k2 : ¬ (bk.list.length : Int) < (bk.list.length : Int) := by omega
     have p3 := (Hb4.out.cell (p := ⟨b, off + i * 6 + 3, none⟩) HB.out).trans Hq3.out
     have p4 := (Hb4.out.cell (p := ⟨b, off + i * 6 + 4, none⟩) HB.out).trans Hq4.out
     have hcv := q8w bk.end_.on r
     have hci := q8v bk.end_.on r
     have hadd := q8x (rfI L bk.list bk.list.length) (regsV [bk.end_.on]) (r : Int)
     rw [<- hcv, <- Hnx.out] at hadd
     have hcc := q45 bk.end_.on.reg bk.end_.on.n r
     have heta : (⟨bk.end_.on.reg, bk.end_.on.n⟩ : UVal) = bk.end_.on := rfl
     rw [heta] at hcc
     have Hcc := lh hcc
     generalize cntV bk.end_.on r = cv at *
     generalize cntW (rfI L bk.list bk.list.length) (r : Int) = N at *
     generalize hN2 : cntW L' (r : Int) = N2 at *
     have HN2 := lh hN2
     obtain ⟨c0, c1⟩ := hci
     clear hcv hcc heta hN2
     go_wp2_with fail
     refine Hcc.out _ _ (fun w5 hb5 => ?_)
     have Hb5 := lh (Hb4.out.trans (hb5.mono (by omega)))
     clear hb5 x3 lU p1 p3 p4 lb
     go_wp2
     go_roundg (f.blocks.length - (i + 1))
     case measure => omega
     case rel => exact ⟨i + 1, hlt, rfl, by rw [HLL.out, HN2.out]; first | done | rw [hadd], by go_num, Hb5⟩
  ·obtain rfl : i = f.blocks.length := by omega
   have i2 : ¬ (f.blocks.length : Int) < (f.blocks.length : Int) := by omega
   have he : rfB f f.blocks.length = refF f := by unfold rfB refF; rw [List.take_length]
   rw [he]
   have hfin := lh (HR.out _ (Hb2.out.trans (Hb.out.mono Hb2.out.size)))
   clear he
   go_wp2
   exact hfin.out
end Go.Proofs.YtdanebboiekieaaGreatDoor
