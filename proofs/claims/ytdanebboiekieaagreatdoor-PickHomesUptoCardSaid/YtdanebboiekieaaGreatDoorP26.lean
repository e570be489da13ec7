/- The walks, part 26. -/
import Derived.Test.YtdanebboiekieaaGreatDoorP25
set_option linter.unusedSimpArgs false
set_option linter.unusedVariables false
set_option maxRecDepth 100000
set_option maxHeartbeats 16000000
namespace Go.Proofs.YtdanebboiekieaaGreatDoor
open Go.RowKit
theorem qkx {pl : List Int} {xs : List UVal} {k : Nat} (h : k < xs.length) : argMv pl xs (k + 1) = argMv pl xs k ++ if xs[k].reg = true then [⟨(k : Int), plAt pl xs[k].n⟩] else [] := by
 rw [argMv, List.getElem?_eq_getElem h]
theorem qky {xs : List UVal} {k : Nat} (h : k < xs.length) : argSt xs (k + 1) = argSt xs k ++ if xs[k].reg = true then [] else [⟨1, (k : Int), 0, 0, xs[k].n⟩] := by
 rw [argSt, List.getElem?_eq_getElem h]
theorem qge (K : PiK) (code : List Mac) (vc : Value) (pl : List Int) (x : UIns) (va : Value) (w : World) (h : PiS K code vc w) (hP : PiP K pl w) (hA : rpVal.SL w K.PB x.args va) (hn : x.args.length ≤ 15) (hv : ∀ v ∈ x.args, v.reg = true -> 0 ≤ v.n ∧ v.n < (pl.length : Int)) (hd : 0 ≤ x.dst -> x.dst < (pl.length : Int)) (hc : code.length ≤ 80000) (R : Ending -> World -> Prop)
 (hR : ∀ w' vc', PiS K (code ++ callL pl x) vc' w' -> PiG K w vc w' vc' -> R (.returned (.tuple #[])) w') :
 Calls Tryz.prog 60 #[.pointer (some ⟨K.PB, 0, none⟩), .agg #[.int .i64 x.op, .int .i64 x.dst, .bool x.a.reg, .int .i64 x.a.n, .bool x.b.reg, .int .i64 x.b.n, .int .i64 x.fn, va]] w R := by
 obtain ⟨i0, hi0, hz0, hz1, hz2⟩ := info_parts q4r;obtain ⟨HR, HS, HP, Hv, Hd⟩ := lh5 hR h hP hv hd;have lP : K.PB < w.heap.size := qa h.blk;have hbase := h.base;have hlt := K.hlt;obtain ⟨Aa, ca, rfl, _, _, hA⟩ := hA.cases_;have HA := lh hA;clear hR h hP hv hd hA
 go_enter Tryz.func60, Tryz.ntmps60
 go_upto_region 1 with fail
 obtain ⟨W0, hW0, hb0, hX0⟩ := box1 w (.cells #[.int .i64 x.op, .int .i64 x.dst, .bool x.a.reg, .int .i64 x.a.n, .bool x.b.reg, .int .i64 x.b.n, .int .i64 x.fn, .slice Aa x.args.length ca] 71) rfl;rw [<- hW0];have HS0 := lh (HS.out.below hb0);have hap0 := HS.out.apart (Nat.le_refl w.heap.size);obtain ⟨HB0, HX0⟩ := lh2 hb0 hX0;have hne : w.heap.size ≠ K.PB := by omega
 have hz0' := hb0.size;obtain ⟨x0, x1, x2, x3, x4, x5, x6, x7⟩ := qe hX0;have lX := qa hX0;have HM0 : Hid (W0.ownsRow W0.heap.size 81 2 (.slice none 0 0) (argMv pl x.args 0).length ((argMv pl x.args 0).flatMap Move.cells)) := lh (World.ownsRow_nil _ _ _ _);clear hW0 hb0 hX0;go_wp2;clear x0 x1 x2 x3 x4 x5 x6 x7 lX
 go_loopg [4, 12] x.args.length (fun gh s4 s12 wr => ∃ i : Nat, i ≤ x.args.length ∧ gh = x.args.length - i ∧ s12 = .int .i64 (i : Int) ∧ Hid (Below W0.heap.size W0 wr) ∧ Hid (wr.ownsRow W0.heap.size 81 2 s4 (argMv pl x.args i).length ((argMv pl x.args i).flatMap Move.cells)))
 case atStart => exact ⟨0, Nat.zero_le _, rfl, rfl, lh (Below.refl _ _), HM0⟩
 case round =>
  clear HM0;obtain ⟨i, hi, rfl, rfl, Hb, HM⟩ := hrel;have i0' : (0 : Int) ≤ (i : Int) := Int.natCast_nonneg _;have hzr := Hb.out.size;obtain ⟨mA, mc, hsm⟩ := qj HM.out;subst hsm;have hml := qbh pl x.args i
  by_cases hlt' : i < x.args.length
  ·have i1 : (i : Int) < (x.args.length : Int) := Int.ofNat_lt.2 hlt';obtain ⟨ba, oa, hAa, hba, p0, p1⟩ := HA.out.val_at hlt';subst hAa;have hwr : Below w.heap.size w wr := HB0.out.trans (Hb.out.mono hz0');have q0 := (hwr.cell (p := ⟨ba, oa + i * 2, none⟩) (Nat.lt_trans hba lP)).trans p0;have q1 := (hwr.cell (p := ⟨ba, oa + i * 2 + 1, none⟩) (Nat.lt_trans hba lP)).trans p1;have lba : ba < wr.heap.size := by omega
   have hst := qkx (pl := pl) hlt';have hvi := Hv.out _ (List.getElem_mem hlt');obtain ⟨v, hve⟩ : ∃ v, v = x.args[i] := ⟨_, rfl⟩;rw [<- hve] at q0 q1 hst hvi;obtain ⟨Hst, Hvi⟩ := lh2 hst hvi;clear p0 p1 hst hvi hba hve;obtain ⟨W2, hW2, hb2, hX2⟩ := box1 wr (.cells #[.bool v.reg, .int .i64 v.n] 64) rfl;have HW2 := lh hW2.symm;have Hb2 := btt Hb hb2 hzr;have HM2 := lh (q0d HM.out hb2);have Hwr2 := lh (hwr.trans (hb2.mono (Nat.le_trans hz0' hzr)));have hzw2 := Hb2.out.size;clear hW2 hb2 hwr
   go_upto_region 5 with fail
   rw [HW2.out];obtain ⟨y0, y1, lY⟩ := cbl hX2;clear hX2 q0 q1 lba
   cases hr : v.reg with
   | false =>
     rw [hr] at y0;rw [hr, if_neg (by decide), List.append_nil] at Hst;go_wp2
     go_roundg (x.args.length - (i + 1))
     case measure => omega
     case rel => exact ⟨i + 1, hlt', rfl, by go_num, Hb2, by rw [Hst.out]; exact HM2⟩
   | true =>
     obtain ⟨n0, n1⟩ := Hvi.out hr;rw [hr] at y0;rw [if_pos hr] at Hst;obtain ⟨b, off, c, k, ha4, hb, hk, hcell, hp0, hp1⟩ := HP.out.cell n0 n1;have hPB := (Hwr2.out.block _ lP).trans HS.out.blk;have hS := (q0x hPB).2.2.2.2.1;rw [ha4] at hS;have lPB := qa hPB;have hc2 := (Hwr2.out.cell (p := ⟨b, off + k, none⟩) (Nat.lt_trans hb lP)).trans hcell;have lb : b < W2.heap.size := by omega
     obtain ⟨p, hp⟩ := nmm (plAt pl v.n);rw [<- hp] at hc2 Hst;rw [hk] at y1 n0 n1;clear hk hcell hp0 hp1 ha4 hPB hb hp hr
     go_upto_region 6 with fail
     go_region_law ((refine q91 rfl (.tmp 19) (.tmp 30) 76 rfl W0.heap.size 81 i0 _ 2 16 Tryz.underlying76 hi0 hz0 hz1 hz2 rfl (by decide) (.slice mA (argMv pl x.args i).length mc) (argMv pl x.args i).length ((argMv pl x.args i).flatMap Move.cells) (by simp [Act.eval, Act.put]) (q0d HM2.out (by exact bl0)) ⟨W2.heap.size, 0, none⟩ 1 1 [.int .i64 (i : Int), .int .i64 p] (by simp [Act.eval, Act.put]) rfl (World.news_of_block (cs := #[.int .i64 (i : Int), .int .i64 p]) (t := 81) (fr := (0, 0)) (by exact heap_alloc_new W2 _)) (by simp [Value.oneCell']) (by unfold maxLen; omega) (by omega) (by simp; omega) ?_; intro v1 w1 hown1 hgr1 hnil1))
     all_goals
      have hbw : Below W0.heap.size W0 w1 := (Hb2.out.trans ((by exact bl0 : Below W2.heap.size W2 _).mono hzw2)).grown hgr1 (by simp; omega) (fun j e => (HM2.out.lt j e).1);have HBW := lh hbw
      have HOW : Hid (w1.ownsRow W0.heap.size 81 2 v1 (argMv pl x.args (i + 1)).length ((argMv pl x.args (i + 1)).flatMap Move.cells)) := lh (by
       rw [Hst.out, List.length_append, List.flatMap_append];simpa [Move.cells] using hown1)
      clear hbw hown1 hgr1 hnil1;go_wp2
      go_roundg (x.args.length - (i + 1))
      case measure => omega
      case rel => exact ⟨i + 1, hlt', rfl, by go_num, HBW, HOW⟩
  ·obtain rfl : i = x.args.length := by omega
   have i1 : ¬ (x.args.length : Int) < (x.args.length : Int) := by omega
   have Hwr := lh (HB0.out.trans (Hb.out.mono hz0'));have HSr := lh (HS0.out.below Hb.out);have HXr := lh ((Hb.out.block _ (qa HX0.out)).trans HX0.out);have HGr := lh (PiG.of_below (K := K) (vc := vc) Hwr.out);have lXr : w.heap.size < wr.heap.size := qa HXr.out;obtain ⟨l, hl⟩ := nmm (argMv pl x.args x.args.length);have hlb := q83 HP.out.small x.args x.args.length (by omega);have hlf := qg6 pl x.args hn;rw [<- hl] at HM hml hlb hlf ⊢;have Hl := lh hl;have hra := q8u l;have hma := q4t l;clear hl
   go_wp2_with fail
   refine q5j K code vc l _ _ HSr.out (q1h HM.out (Nat.le_refl _)) (by omega) hlf hlb (by omega) _ (fun w3 v3 hs3 hg3 => ?_);have HX3 := lh ((hg3.keep lXr hne hap0).trans HXr.out);have hap3 := hg3.apart lXr hap0;have HG3 := lh (HGr.out.trans hg3);have HS3 := lh hs3;clear hs3 hg3 hlb hlf;obtain ⟨x0, x1, x2, x3, x4, x5, x6, x7⟩ := qe HX3.out;have lX := qa HX3.out;go_wp2;clear x0 x1 x2 x3 x4 x5 x6 x7 lX
   go_loopg [39] x.args.length (fun gh s39 wq => ∃ (i : Nat) (vq : Value), i ≤ x.args.length ∧ gh = x.args.length - i ∧ s39 = .int .i64 (i : Int) ∧ Hid (PiS K (code ++ q0c l ++ argSt x.args i) vq wq) ∧ Hid (PiG K w3 v3 wq vq))
   case atStart => exact ⟨0, v3, Nat.zero_le _, rfl, rfl, lh (by rw [argSt, List.append_nil]; exact HS3.out), lh (PiG.refl _ _ _)⟩
   case round =>
    obtain ⟨i, vq, hi, rfl, rfl, HSq, HGq⟩ := hrel;have i0' : (0 : Int) ≤ (i : Int) := Int.natCast_nonneg _;have hasl := qbi x.args i;have HGw := lh (HG3.out.trans HGq.out);have HBq := lh (HGw.out.below HS.out (Nat.le_refl _));have lPq : K.PB < wr.heap.size := qa HSq.out.blk
    by_cases hlt' : i < x.args.length
    ·have i2 : (i : Int) < (x.args.length : Int) := Int.ofNat_lt.2 hlt';obtain ⟨ba, oa, hAa, hba, p0, p1⟩ := HA.out.val_at hlt';subst hAa;have q0 := (HBq.out.cell (p := ⟨ba, oa + i * 2, none⟩) hba).trans p0;have q1 := (HBq.out.cell (p := ⟨ba, oa + i * 2 + 1, none⟩) hba).trans p1;have lba : ba < wr.heap.size := by omega
     have hst := qky hlt';obtain ⟨v, hve⟩ : ∃ v, v = x.args[i] := ⟨_, rfl⟩;rw [<- hve] at q0 q1 hst;have Hst := lh hst;clear p0 p1 hst hba hve;obtain ⟨W2, hW2, hb2, hX2⟩ := box1 wr (.cells #[.bool v.reg, .int .i64 v.n] 64) rfl;have HW2 := lh hW2.symm;have HS2 := lh (HSq.out.below hb2);have HG2 := lh (HGq.out.trans (PiG.of_below (K := K) (vc := vq) hb2));clear hW2 hb2
     go_upto_region 12 with fail
     rw [HW2.out];obtain ⟨y0, y1, lY⟩ := cbl hX2;clear hX2 q0 q1 lba
     cases hr : v.reg with
     | true =>
       rw [hr] at y0;rw [if_pos hr, List.append_nil] at Hst;go_wp2
       go_roundg (x.args.length - (i + 1))
       case measure => omega
       case rel => exact ⟨i + 1, vq, hlt', rfl, by go_num, by rw [Hst.out]; exact HS2, HG2⟩
     | false =>
       rw [hr] at y0;rw [hr, if_neg (by decide)] at Hst
       go_wp2_with fail
       refine q00 K _ vq ⟨1, (i : Int), 0, 0, v.n⟩ _ HS2.out (by rw [List.length_append, List.length_append]; omega) _ (fun w4 v4 hs4 hg4 => ?_);have HS4 : Hid (PiS K (code ++ q0c l ++ argSt x.args (i + 1)) v4 w4) := lh (by rw [Hst.out, <- List.append_assoc]; exact hs4);have HG4 := lh (HG2.out.trans hg4);clear hs4 hg4 y0 y1 lY;go_wp2
       go_roundg (x.args.length - (i + 1))
       case measure => omega
       case rel => exact ⟨i + 1, v4, hlt', rfl, by go_num, HS4, HG4⟩
    ·obtain rfl : i = x.args.length := by omega
     have i2 : ¬ (x.args.length : Int) < (x.args.length : Int) := by omega
     have lX3 := qa HX3.out;have HXq := lh ((HGq.out.keep lX3 hne hap3).trans HX3.out);have hapq := HGq.out.apart lX3 hap3;obtain ⟨x0, x1, x2, x3, x4, x5, x6, x7⟩ := qe HXq.out;have lX := qa HXq.out;have hcl : (code ++ q0c l ++ argSt x.args x.args.length).length ≤ 90000 := by rw [List.length_append, List.length_append]; omega
     have hcc : code ++ callL pl x = code ++ q0c l ++ argSt x.args x.args.length ++ [⟨44, 0, 0, 0, x.fn⟩] ++ (if 0 ≤ x.dst then q0k (plAt pl x.dst) 0 else []) := by
      rw [callL, <- Hl.out];simp only [List.append_assoc]
     rw [hcc] at HR;generalize code ++ q0c l ++ argSt x.args x.args.length = c1 at HSq hcl HR;clear hcc
     go_wp2_with fail
     refine q00 K c1 vq ⟨44, 0, 0, 0, x.fn⟩ _ HSq.out (by omega) _ (fun w4 v4 hs4 hg4 => ?_);have HX4 := lh ((hg4.keep lX hne hapq).trans HXq.out);have HG4 := lh (HGw.out.trans hg4);have HS4 := lh hs4;have hc1 : (c1 ++ [⟨44, 0, 0, 0, x.fn⟩] : List Mac).length ≤ 99000 := by rw [List.length_append, List.length_singleton]; omega
     clear hs4 hg4 x0 x1 x2 x3 x4 x5 x6 x7 lX;obtain ⟨x0, x1, x2, x3, x4, x5, x6, x7⟩ := qe HX4.out;have lX := qa HX4.out
     by_cases hdd : 0 ≤ x.dst
     ·have hdg : x.dst ≥ 0 := hdd;rw [if_pos hdd] at HR;obtain ⟨b, off, c, k, ha4, hb, hk, hcell, hp0, hp1⟩ := HP.out.cell hdd (Hd.out hdd);have hPB := HS4.out.blk;have hS := (q0x hPB).2.2.2.2.1;rw [ha4] at hS;have lPB := qa hPB;have hc2 := ((HG4.out.below HS.out (Nat.le_refl _)).cell (p := ⟨b, off + k, none⟩) hb).trans hcell;have lb : b < w4.heap.size := by omega
      have k1 : (k : Int) < (pl.length : Int) := by have := Hd.out hdd; omega
      have k0 := nnn k;obtain ⟨p, hp⟩ := nmm (plAt pl x.dst);rw [<- hp] at hc2 HR hp0 hp1;rw [hk] at x1 hdg;clear hk hcell ha4 hPB hb hp hdd
      go_upto_region 17 with fail
      go_still_tail 9, (by kernel_rfl)
      change wpList _ _ _ _ _ w4.drew;have hbd : Below w4.heap.size w4 w4.drew := (Below.refl _ _).drew
      go_wp2_with fail
      refine q4b K _ v4 p 0 (by omega) (by omega) _ (HS4.out.below hbd) hc1 _ (fun w5 v5 hs5 hg5 => ?_);have HF := lh (HR.out w5 v5 hs5 (HG4.out.trans ((PiG.of_below hbd).trans hg5)));clear hs5 hg5;go_wp2;refine bodyPost_ret (results_none rfl _ _ _) rfl ?_;exact HF.out
     ·have hdg : ¬ x.dst ≥ 0 := hdd;rw [if_neg hdd, List.append_nil] at HR;have HF := lh (HR.out w4 v4 HS4.out HG4.out);go_wp2;refine bodyPost_ret (results_none rfl _ _ _) rfl ?_;exact HF.out
def insL (pl : List Int) (x : UIns) : List Mac :=
 if x.op = 1 then (if x.a.reg = true then q0k (plAt pl x.dst) (plAt pl x.a.n) else toldL pl ⟨1, 0, 0, 0, x.a.n⟩ x.dst)
 else if x.op = 16 then (heldL pl x.a 14).1 ++ toldL pl ⟨3, 0, (heldL pl x.a 14).2, 0, 0⟩ x.dst
 else if x.op = 17 then (heldL pl x.a 14).1 ++ toldL pl ⟨4, 0, (heldL pl x.a 14).2, 0, 0⟩ x.dst
 else if x.op = 18 then (heldL pl x.a 14).1 ++ toldL pl ⟨33, 0, (heldL pl x.a 14).2, 0, 0⟩ x.dst
 else if x.op = 19 then (heldL pl x.a 14).1 ++ ((heldL pl x.b 15).1 ++ [⟨34, 0, (heldL pl x.a 14).2, (heldL pl x.b 15).2, 0⟩])
 else if x.op = 20 then callL pl x
 else if x.op = 21 then toldL pl ⟨46, 0, 0, 0, 0⟩ x.dst
 else if x.op = 22 then (heldL pl x.a 14).1 ++ [⟨47, 0, (heldL pl x.a 14).2, 0, 0⟩]
 else twoL pl x
structure InsP (pl : List Int) (x : UIns) : Prop where
 a : x.a.reg = true -> 0 ≤ x.a.n ∧ x.a.n < (pl.length : Int)
 b : x.b.reg = true -> 0 ≤ x.b.n ∧ x.b.n < (pl.length : Int)
 args : ∀ v ∈ x.args, v.reg = true -> 0 ≤ v.n ∧ v.n < (pl.length : Int)
 few : x.args.length ≤ 15
 dst : x.op ≠ 19 -> x.op ≠ 20 -> x.op ≠ 22 -> 0 ≤ x.dst
 hi : x.dst < (pl.length : Int)
 op : 0 ≤ x.op ∧ x.op ≤ 1000
theorem qnw (K : PiK) (code : List Mac) (vc : Value) (pl : List Int) (x : UIns) (va : Value) (w : World) (h : PiS K code vc w) (hP : PiP K pl w) (hI : InsP pl x) (hop : x.op = 16) (hc : code.length ≤ 80000) (R : Ending -> World -> Prop)
 (hR : ∀ w' vc', PiS K (code ++ insL pl x) vc' w' -> PiG K w vc w' vc' -> R (.returned (.tuple #[])) w') :
 Calls Tryz.prog 28 #[.pointer (some ⟨K.PB, 0, none⟩), .agg #[.int .i64 x.op, .int .i64 x.dst, .bool x.a.reg, .int .i64 x.a.n, .bool x.b.reg, .int .i64 x.b.n, .int .i64 x.fn, va]] w R := by
 have e : insL pl x = (heldL pl x.a 14).1 ++ toldL pl ⟨3, 0, (heldL pl x.a 14).2, 0, 0⟩ x.dst := by
  unfold insL;rw [hop];rfl
 rw [e] at hR;obtain ⟨HR, HS, HP, HI⟩ := lh4 hR h hP hI;have lP : K.PB < w.heap.size := qa h.blk;have hbase := h.base;have hlt := K.hlt;have d0 := hI.dst (by omega) (by omega) (by omega);have Hd0 := lh d0;clear e hR h hP hI d0;rw [hop]
 go_enter Tryz.func28, Tryz.ntmps28
 go_upto_region 1 with fail
 obtain ⟨W0, hW0, hb0, hX0⟩ := box1 w (.cells #[.int .i64 16, .int .i64 x.dst, .bool x.a.reg, .int .i64 x.a.n, .bool x.b.reg, .int .i64 x.b.n, .int .i64 x.fn, va] 71) rfl;rw [<- hW0];have HS0 := lh (HS.out.below hb0);have HP0 := lh (HP.out.below (hb0.mono (Nat.le_of_lt lP)));have hap0 := HS.out.apart (Nat.le_refl w.heap.size);have HG0 := lh (PiG.of_below (K := K) (vc := vc) hb0);have HX0 := lh hX0;have hne : w.heap.size ≠ K.PB := by omega
 obtain ⟨x0, x1, x2, x3, x4, x5, x6, x7⟩ := qe hX0;have lX := qa hX0;have hl1 := q0y pl x.a 14;obtain ⟨ca, hca⟩ : ∃ ca, ca = (heldL pl x.a 14).1 := ⟨_, rfl⟩;obtain ⟨a, haa⟩ : ∃ a, a = (heldL pl x.a 14).2 := ⟨_, rfl⟩
 have Hin : Hid (∀ W, Below W0.heap.size W0 W -> ∀ R : Ending -> World -> Prop, (∀ w' vc', PiS K (code ++ ca) vc' w' -> PiG K W0 vc w' vc' -> PiP K pl w' -> w'.heap[w.heap.size]? = some (.cells #[.int .i64 16, .int .i64 x.dst, .bool x.a.reg, .int .i64 x.a.n, .bool x.b.reg, .int .i64 x.b.n, .int .i64 x.fn, va] 71 (0, 0)) -> R (.returned (.int .i64 a)) w') -> Calls Tryz.prog 59 #[.pointer (some ⟨K.PB, 0, none⟩), .agg #[.bool x.a.reg, .int .i64 x.a.n], .int .i64 14] W R) := lh fun W hW R hR => by
  have hP' := HP0.out.below (hW.mono (by have := hb0.size; omega));have hS' := HS0.out.below hW;refine q2o K code vc pl x.a 14 W hS' hP' HI.out.a (by omega) R (fun w1 v1 hs1 hg1 => ?_);rw [<- hca] at hs1;rw [<- haa];have lX' : w.heap.size < W.heap.size := Nat.lt_of_lt_of_le lX hW.size;exact hR w1 v1 hs1 ((PiG.of_below hW).trans hg1) (hP'.step hS' hg1) ((hg1.keep lX' hne hap0).trans ((hW.block _ lX).trans HX0.out))
 rw [<- hca, <- haa] at HR;rw [<- hca] at hl1;clear hW0 hb0 hX0 hca haa;have hS0 : W0.cell? ⟨w.heap.size, 1, none⟩ = some (.int .i64 x.dst) ∧ W0.cell? ⟨w.heap.size, 2, none⟩ = some (.bool x.a.reg) ∧ W0.cell? ⟨w.heap.size, 3, none⟩ = some (.int .i64 x.a.n) := ⟨x1, x2, x3⟩
 go_upto_region 8 with fail
 clear x1 x2 x3
 go_region_held3 (fun W : World => W.cell? ⟨w.heap.size, 1, none⟩ = some (.int .i64 x.dst) ∧ W.cell? ⟨w.heap.size, 2, none⟩ = some (.bool x.a.reg) ∧ W.cell? ⟨w.heap.size, 3, none⟩ = some (.int .i64 x.a.n)) (first | with_reducible exact hS0 | with_reducible exact hS1 | with_reducible exact hS2 | go_keep) (first
  | (go_at_call 59; with_reducible refine Hin.out _ (by exact bl0) _ ?_; intro w1 v1 hs1 hg1 hp1 hx1; have hS1 : w1.cell? ⟨w.heap.size, 1, none⟩ = some (.int .i64 x.dst) ∧ w1.cell? ⟨w.heap.size, 2, none⟩ = some (.bool x.a.reg) ∧ w1.cell? ⟨w.heap.size, 3, none⟩ = some (.int .i64 x.a.n) := ⟨(qe hx1).2.1, (qe hx1).2.2.1, (qe hx1).2.2.2.1⟩; have lX1 := qa hx1; have hap1 := hg1.apart lX hap0)
  | (go_at_call 58; refine q2m K _ v1 pl ⟨3, 0, a, 0, 0⟩ x.dst _ (hs1.below (by exact bl0)) (hp1.below (by exact bl0)) Hd0.out HI.out.hi (by rw [List.length_append]; omega) _ ?_; intro w2 v2 hs2 hg2; have hx2 := (hg2.keep (show w.heap.size < _ from Nat.lt_of_lt_of_le lX1 (Below.size (by exact bl0 : Below w1.heap.size w1 _))) hne hap1).trans ((Below.block (by exact bl0 : Below w1.heap.size w1 _) _ lX1).trans hx1); have hS2 : w2.cell? ⟨w.heap.size, 1, none⟩ = some (.int .i64 x.dst) ∧ w2.cell? ⟨w.heap.size, 2, none⟩ = some (.bool x.a.reg) ∧ w2.cell? ⟨w.heap.size, 3, none⟩ = some (.int .i64 x.a.n) := ⟨(qe hx2).2.1, (qe hx2).2.2.1, (qe hx2).2.2.2.1⟩))
 all_goals
  have hgm := hg1.trans ((PiG.of_below (by exact bl0)).trans hg2);have HF := lh (HR.out w2 v2 (by have h1 := hs2; rw [List.append_assoc] at h1; exact h1) (HG0.out.trans hgm));clear hgm hs2 hg2 hs1 hg1 hp1 hx1 hx2 hS0 hS1 hS2;go_wp2;refine bodyPost_ret (results_none rfl _ _ _) rfl ?_;exact HF.out
theorem qnx (K : PiK) (code : List Mac) (vc : Value) (pl : List Int) (x : UIns) (va : Value) (w : World) (h : PiS K code vc w) (hP : PiP K pl w) (hI : InsP pl x) (hop : x.op = 17) (hc : code.length ≤ 80000) (R : Ending -> World -> Prop)
 (hR : ∀ w' vc', PiS K (code ++ insL pl x) vc' w' -> PiG K w vc w' vc' -> R (.returned (.tuple #[])) w') :
 Calls Tryz.prog 28 #[.pointer (some ⟨K.PB, 0, none⟩), .agg #[.int .i64 x.op, .int .i64 x.dst, .bool x.a.reg, .int .i64 x.a.n, .bool x.b.reg, .int .i64 x.b.n, .int .i64 x.fn, va]] w R := by
 have e : insL pl x = (heldL pl x.a 14).1 ++ toldL pl ⟨4, 0, (heldL pl x.a 14).2, 0, 0⟩ x.dst := by
  unfold insL;rw [hop];rfl
 rw [e] at hR;obtain ⟨HR, HS, HP, HI⟩ := lh4 hR h hP hI;have lP : K.PB < w.heap.size := qa h.blk;have hbase := h.base;have hlt := K.hlt;have d0 := hI.dst (by omega) (by omega) (by omega);have Hd0 := lh d0;clear e hR h hP hI d0;rw [hop]
 go_enter Tryz.func28, Tryz.ntmps28
 go_upto_region 1 with fail
 obtain ⟨W0, hW0, hb0, hX0⟩ := box1 w (.cells #[.int .i64 17, .int .i64 x.dst, .bool x.a.reg, .int .i64 x.a.n, .bool x.b.reg, .int .i64 x.b.n, .int .i64 x.fn, va] 71) rfl;rw [<- hW0];have HS0 := lh (HS.out.below hb0);have HP0 := lh (HP.out.below (hb0.mono (Nat.le_of_lt lP)));have hap0 := HS.out.apart (Nat.le_refl w.heap.size);have HG0 := lh (PiG.of_below (K := K) (vc := vc) hb0);have HX0 := lh hX0;have hne : w.heap.size ≠ K.PB := by omega
 obtain ⟨x0, x1, x2, x3, x4, x5, x6, x7⟩ := qe hX0;have lX := qa hX0;have hl1 := q0y pl x.a 14;obtain ⟨ca, hca⟩ : ∃ ca, ca = (heldL pl x.a 14).1 := ⟨_, rfl⟩;obtain ⟨a, haa⟩ : ∃ a, a = (heldL pl x.a 14).2 := ⟨_, rfl⟩
 have Hin : Hid (∀ W, Below W0.heap.size W0 W -> ∀ R : Ending -> World -> Prop, (∀ w' vc', PiS K (code ++ ca) vc' w' -> PiG K W0 vc w' vc' -> PiP K pl w' -> w'.heap[w.heap.size]? = some (.cells #[.int .i64 17, .int .i64 x.dst, .bool x.a.reg, .int .i64 x.a.n, .bool x.b.reg, .int .i64 x.b.n, .int .i64 x.fn, va] 71 (0, 0)) -> R (.returned (.int .i64 a)) w') -> Calls Tryz.prog 59 #[.pointer (some ⟨K.PB, 0, none⟩), .agg #[.bool x.a.reg, .int .i64 x.a.n], .int .i64 14] W R) := lh fun W hW R hR => by
  have hP' := HP0.out.below (hW.mono (by have := hb0.size; omega));have hS' := HS0.out.below hW;refine q2o K code vc pl x.a 14 W hS' hP' HI.out.a (by omega) R (fun w1 v1 hs1 hg1 => ?_);rw [<- hca] at hs1;rw [<- haa];have lX' : w.heap.size < W.heap.size := Nat.lt_of_lt_of_le lX hW.size;exact hR w1 v1 hs1 ((PiG.of_below hW).trans hg1) (hP'.step hS' hg1) ((hg1.keep lX' hne hap0).trans ((hW.block _ lX).trans HX0.out))
 rw [<- hca, <- haa] at HR;rw [<- hca] at hl1;clear hW0 hb0 hX0 hca haa;have hS0 : W0.cell? ⟨w.heap.size, 1, none⟩ = some (.int .i64 x.dst) ∧ W0.cell? ⟨w.heap.size, 2, none⟩ = some (.bool x.a.reg) ∧ W0.cell? ⟨w.heap.size, 3, none⟩ = some (.int .i64 x.a.n) := ⟨x1, x2, x3⟩
 go_upto_region 10 with fail
 clear x1 x2 x3
 go_region_held3 (fun W : World => W.cell? ⟨w.heap.size, 1, none⟩ = some (.int .i64 x.dst) ∧ W.cell? ⟨w.heap.size, 2, none⟩ = some (.bool x.a.reg) ∧ W.cell? ⟨w.heap.size, 3, none⟩ = some (.int .i64 x.a.n)) (first | with_reducible exact hS0 | with_reducible exact hS1 | with_reducible exact hS2 | go_keep) (first
  | (go_at_call 59; with_reducible refine Hin.out _ (by exact bl0) _ ?_; intro w1 v1 hs1 hg1 hp1 hx1; have hS1 : w1.cell? ⟨w.heap.size, 1, none⟩ = some (.int .i64 x.dst) ∧ w1.cell? ⟨w.heap.size, 2, none⟩ = some (.bool x.a.reg) ∧ w1.cell? ⟨w.heap.size, 3, none⟩ = some (.int .i64 x.a.n) := ⟨(qe hx1).2.1, (qe hx1).2.2.1, (qe hx1).2.2.2.1⟩; have lX1 := qa hx1; have hap1 := hg1.apart lX hap0)
  | (go_at_call 58; refine q2m K _ v1 pl ⟨4, 0, a, 0, 0⟩ x.dst _ (hs1.below (by exact bl0)) (hp1.below (by exact bl0)) Hd0.out HI.out.hi (by rw [List.length_append]; omega) _ ?_; intro w2 v2 hs2 hg2; have hx2 := (hg2.keep (show w.heap.size < _ from Nat.lt_of_lt_of_le lX1 (Below.size (by exact bl0 : Below w1.heap.size w1 _))) hne hap1).trans ((Below.block (by exact bl0 : Below w1.heap.size w1 _) _ lX1).trans hx1); have hS2 : w2.cell? ⟨w.heap.size, 1, none⟩ = some (.int .i64 x.dst) ∧ w2.cell? ⟨w.heap.size, 2, none⟩ = some (.bool x.a.reg) ∧ w2.cell? ⟨w.heap.size, 3, none⟩ = some (.int .i64 x.a.n) := ⟨(qe hx2).2.1, (qe hx2).2.2.1, (qe hx2).2.2.2.1⟩))
 all_goals
  have hgm := hg1.trans ((PiG.of_below (by exact bl0)).trans hg2);have HF := lh (HR.out w2 v2 (by have h1 := hs2; rw [List.append_assoc] at h1; exact h1) (HG0.out.trans hgm));clear hgm hs2 hg2 hs1 hg1 hp1 hx1 hx2 hS0 hS1 hS2;go_wp2;refine bodyPost_ret (results_none rfl _ _ _) rfl ?_;exact HF.out
theorem qny (K : PiK) (code : List Mac) (vc : Value) (pl : List Int) (x : UIns) (va : Value) (w : World) (h : PiS K code vc w) (hP : PiP K pl w) (hI : InsP pl x) (hop : x.op = 18) (hc : code.length ≤ 80000) (R : Ending -> World -> Prop)
 (hR : ∀ w' vc', PiS K (code ++ insL pl x) vc' w' -> PiG K w vc w' vc' -> R (.returned (.tuple #[])) w') :
 Calls Tryz.prog 28 #[.pointer (some ⟨K.PB, 0, none⟩), .agg #[.int .i64 x.op, .int .i64 x.dst, .bool x.a.reg, .int .i64 x.a.n, .bool x.b.reg, .int .i64 x.b.n, .int .i64 x.fn, va]] w R := by
 have e : insL pl x = (heldL pl x.a 14).1 ++ toldL pl ⟨33, 0, (heldL pl x.a 14).2, 0, 0⟩ x.dst := by
  unfold insL;rw [hop];rfl
 rw [e] at hR;obtain ⟨HR, HS, HP, HI⟩ := lh4 hR h hP hI;have lP : K.PB < w.heap.size := qa h.blk;have hbase := h.base;have hlt := K.hlt;have d0 := hI.dst (by omega) (by omega) (by omega);have Hd0 := lh d0;clear e hR h hP hI d0;rw [hop]
 go_enter Tryz.func28, Tryz.ntmps28
 go_upto_region 1 with fail
 obtain ⟨W0, hW0, hb0, hX0⟩ := box1 w (.cells #[.int .i64 18, .int .i64 x.dst, .bool x.a.reg, .int .i64 x.a.n, .bool x.b.reg, .int .i64 x.b.n, .int .i64 x.fn, va] 71) rfl;rw [<- hW0];have HS0 := lh (HS.out.below hb0);have HP0 := lh (HP.out.below (hb0.mono (Nat.le_of_lt lP)));have hap0 := HS.out.apart (Nat.le_refl w.heap.size);have HG0 := lh (PiG.of_below (K := K) (vc := vc) hb0);have HX0 := lh hX0;have hne : w.heap.size ≠ K.PB := by omega
 obtain ⟨x0, x1, x2, x3, x4, x5, x6, x7⟩ := qe hX0;have lX := qa hX0;have hl1 := q0y pl x.a 14;obtain ⟨ca, hca⟩ : ∃ ca, ca = (heldL pl x.a 14).1 := ⟨_, rfl⟩;obtain ⟨a, haa⟩ : ∃ a, a = (heldL pl x.a 14).2 := ⟨_, rfl⟩
 have Hin : Hid (∀ W, Below W0.heap.size W0 W -> ∀ R : Ending -> World -> Prop, (∀ w' vc', PiS K (code ++ ca) vc' w' -> PiG K W0 vc w' vc' -> PiP K pl w' -> w'.heap[w.heap.size]? = some (.cells #[.int .i64 18, .int .i64 x.dst, .bool x.a.reg, .int .i64 x.a.n, .bool x.b.reg, .int .i64 x.b.n, .int .i64 x.fn, va] 71 (0, 0)) -> R (.returned (.int .i64 a)) w') -> Calls Tryz.prog 59 #[.pointer (some ⟨K.PB, 0, none⟩), .agg #[.bool x.a.reg, .int .i64 x.a.n], .int .i64 14] W R) := lh fun W hW R hR => by
  have hP' := HP0.out.below (hW.mono (by have := hb0.size; omega));have hS' := HS0.out.below hW;refine q2o K code vc pl x.a 14 W hS' hP' HI.out.a (by omega) R (fun w1 v1 hs1 hg1 => ?_);rw [<- hca] at hs1;rw [<- haa];have lX' : w.heap.size < W.heap.size := Nat.lt_of_lt_of_le lX hW.size;exact hR w1 v1 hs1 ((PiG.of_below hW).trans hg1) (hP'.step hS' hg1) ((hg1.keep lX' hne hap0).trans ((hW.block _ lX).trans HX0.out))
 rw [<- hca, <- haa] at HR;rw [<- hca] at hl1;clear hW0 hb0 hX0 hca haa;have hS0 : W0.cell? ⟨w.heap.size, 1, none⟩ = some (.int .i64 x.dst) ∧ W0.cell? ⟨w.heap.size, 2, none⟩ = some (.bool x.a.reg) ∧ W0.cell? ⟨w.heap.size, 3, none⟩ = some (.int .i64 x.a.n) := ⟨x1, x2, x3⟩
 go_upto_region 12 with fail
 clear x1 x2 x3
 go_region_held3 (fun W : World => W.cell? ⟨w.heap.size, 1, none⟩ = some (.int .i64 x.dst) ∧ W.cell? ⟨w.heap.size, 2, none⟩ = some (.bool x.a.reg) ∧ W.cell? ⟨w.heap.size, 3, none⟩ = some (.int .i64 x.a.n)) (first | with_reducible exact hS0 | with_reducible exact hS1 | with_reducible exact hS2 | go_keep) (first
  | (go_at_call 59; with_reducible refine Hin.out _ (by exact bl0) _ ?_; intro w1 v1 hs1 hg1 hp1 hx1; have hS1 : w1.cell? ⟨w.heap.size, 1, none⟩ = some (.int .i64 x.dst) ∧ w1.cell? ⟨w.heap.size, 2, none⟩ = some (.bool x.a.reg) ∧ w1.cell? ⟨w.heap.size, 3, none⟩ = some (.int .i64 x.a.n) := ⟨(qe hx1).2.1, (qe hx1).2.2.1, (qe hx1).2.2.2.1⟩; have lX1 := qa hx1; have hap1 := hg1.apart lX hap0)
  | (go_at_call 58; refine q2m K _ v1 pl ⟨33, 0, a, 0, 0⟩ x.dst _ (hs1.below (by exact bl0)) (hp1.below (by exact bl0)) Hd0.out HI.out.hi (by rw [List.length_append]; omega) _ ?_; intro w2 v2 hs2 hg2; have hx2 := (hg2.keep (show w.heap.size < _ from Nat.lt_of_lt_of_le lX1 (Below.size (by exact bl0 : Below w1.heap.size w1 _))) hne hap1).trans ((Below.block (by exact bl0 : Below w1.heap.size w1 _) _ lX1).trans hx1); have hS2 : w2.cell? ⟨w.heap.size, 1, none⟩ = some (.int .i64 x.dst) ∧ w2.cell? ⟨w.heap.size, 2, none⟩ = some (.bool x.a.reg) ∧ w2.cell? ⟨w.heap.size, 3, none⟩ = some (.int .i64 x.a.n) := ⟨(qe hx2).2.1, (qe hx2).2.2.1, (qe hx2).2.2.2.1⟩))
 all_goals
  have hgm := hg1.trans ((PiG.of_below (by exact bl0)).trans hg2);have HF := lh (HR.out w2 v2 (by have h1 := hs2; rw [List.append_assoc] at h1; exact h1) (HG0.out.trans hgm));clear hgm hs2 hg2 hs1 hg1 hp1 hx1 hx2 hS0 hS1 hS2;go_wp2;refine bodyPost_ret (results_none rfl _ _ _) rfl ?_;exact HF.out
theorem qo3 (K : PiK) (code : List Mac) (vc : Value) (pl : List Int) (x : UIns) (va : Value) (w : World) (h : PiS K code vc w) (hP : PiP K pl w) (hI : InsP pl x) (hop : x.op = 21) (hc : code.length ≤ 80000) (R : Ending -> World -> Prop)
 (hR : ∀ w' vc', PiS K (code ++ insL pl x) vc' w' -> PiG K w vc w' vc' -> R (.returned (.tuple #[])) w') :
 Calls Tryz.prog 28 #[.pointer (some ⟨K.PB, 0, none⟩), .agg #[.int .i64 x.op, .int .i64 x.dst, .bool x.a.reg, .int .i64 x.a.n, .bool x.b.reg, .int .i64 x.b.n, .int .i64 x.fn, va]] w R := by
 have e : insL pl x = toldL pl ⟨46, 0, 0, 0, 0⟩ x.dst := by
  unfold insL;rw [hop];rfl
 rw [e] at hR;obtain ⟨HR, HS, HP, HI⟩ := lh4 hR h hP hI;have lP : K.PB < w.heap.size := qa h.blk;have hbase := h.base;have hlt := K.hlt;have hI2 := hI;clear e hR h hP hI;have d0 := hI2.dst (by omega) (by omega) (by omega);have Hd0 := lh d0;clear d0 hI2;rw [hop]
 go_enter Tryz.func28, Tryz.ntmps28
 go_upto_region 1 with fail
 obtain ⟨W0, hW0, hb0, hX0⟩ := box1 w (.cells #[.int .i64 21, .int .i64 x.dst, .bool x.a.reg, .int .i64 x.a.n, .bool x.b.reg, .int .i64 x.b.n, .int .i64 x.fn, va] 71) rfl;rw [<- hW0];have HS0 := lh (HS.out.below hb0);have HP0 := lh (HP.out.below (hb0.mono (Nat.le_of_lt lP)));have hap0 := HS.out.apart (Nat.le_refl w.heap.size);have HG0 := lh (PiG.of_below (K := K) (vc := vc) hb0);have HX0 := lh hX0;have hne : w.heap.size ≠ K.PB := by omega
 obtain ⟨x0, x1, x2, x3, x4, x5, x6, x7⟩ := qe hX0;have lX := qa hX0;clear hW0 hb0 hX0
 go_wp2_with fail
 refine q2m K code vc pl ⟨46, 0, 0, 0, 0⟩ x.dst _ HS0.out HP0.out Hd0.out HI.out.hi (by omega) _ (fun w1 v1 hs1 hg1 => ?_);have HF := lh (HR.out w1 v1 hs1 (HG0.out.trans hg1));clear hs1 hg1;go_wp2;refine bodyPost_ret (results_none rfl _ _ _) rfl ?_;exact HF.out
theorem qo4 (K : PiK) (code : List Mac) (vc : Value) (pl : List Int) (x : UIns) (va : Value) (w : World) (h : PiS K code vc w) (hP : PiP K pl w) (hI : InsP pl x) (hop : x.op = 22) (hc : code.length ≤ 80000) (R : Ending -> World -> Prop)
 (hR : ∀ w' vc', PiS K (code ++ insL pl x) vc' w' -> PiG K w vc w' vc' -> R (.returned (.tuple #[])) w') :
 Calls Tryz.prog 28 #[.pointer (some ⟨K.PB, 0, none⟩), .agg #[.int .i64 x.op, .int .i64 x.dst, .bool x.a.reg, .int .i64 x.a.n, .bool x.b.reg, .int .i64 x.b.n, .int .i64 x.fn, va]] w R := by
 have e : insL pl x = (heldL pl x.a 14).1 ++ [⟨47, 0, (heldL pl x.a 14).2, 0, 0⟩] := by
  unfold insL;rw [hop];rfl
 rw [e] at hR;obtain ⟨HR, HS, HP, HI⟩ := lh4 hR h hP hI;have lP : K.PB < w.heap.size := qa h.blk;have hbase := h.base;have hlt := K.hlt;have hI2 := hI;clear e hR h hP hI;clear hI2;rw [hop]
 go_enter Tryz.func28, Tryz.ntmps28
 go_upto_region 1 with fail
 obtain ⟨W0, hW0, hb0, hX0⟩ := box1 w (.cells #[.int .i64 22, .int .i64 x.dst, .bool x.a.reg, .int .i64 x.a.n, .bool x.b.reg, .int .i64 x.b.n, .int .i64 x.fn, va] 71) rfl;rw [<- hW0];have HS0 := lh (HS.out.below hb0);have HP0 := lh (HP.out.below (hb0.mono (Nat.le_of_lt lP)));have hap0 := HS.out.apart (Nat.le_refl w.heap.size);have HG0 := lh (PiG.of_below (K := K) (vc := vc) hb0);have HX0 := lh hX0;have hne : w.heap.size ≠ K.PB := by omega
 obtain ⟨x0, x1, x2, x3, x4, x5, x6, x7⟩ := qe hX0;have lX := qa hX0;clear hW0 hb0 hX0;have hl1 := q0y pl x.a 14
 go_wp2_with fail
 refine q2o K code vc pl x.a 14 _ HS0.out HP0.out HI.out.a (by omega) _ (fun w1 v1 hs1 hg1 => ?_);have HS1 := lh hs1;have HG1 := lh (HG0.out.trans hg1);clear hs1 hg1;generalize heldL pl x.a 14 = q at *;obtain ⟨ca, a⟩ := q;dsimp only at *
 go_wp2_with fail
 refine q00 K _ v1 ⟨47, 0, a, 0, 0⟩ _ HS1.out (by rw [List.length_append]; omega) _ (fun w2 v2 hs2 hg2 => ?_);have HF := lh (HR.out w2 v2 (by have h1 := hs2; rw [List.append_assoc] at h1; exact h1) (HG1.out.trans hg2));clear hs2 hg2;go_wp2;refine bodyPost_ret (results_none rfl _ _ _) rfl ?_;exact HF.out
theorem qo2 (K : PiK) (code : List Mac) (vc : Value) (pl : List Int) (x : UIns) (va : Value) (w : World) (h : PiS K code vc w) (hP : PiP K pl w) (hI : InsP pl x) (hop : x.op = 20) (hA : rpVal.SL w K.PB x.args va) (hc : code.length ≤ 80000) (R : Ending -> World -> Prop)
 (hR : ∀ w' vc', PiS K (code ++ insL pl x) vc' w' -> PiG K w vc w' vc' -> R (.returned (.tuple #[])) w') :
 Calls Tryz.prog 28 #[.pointer (some ⟨K.PB, 0, none⟩), .agg #[.int .i64 x.op, .int .i64 x.dst, .bool x.a.reg, .int .i64 x.a.n, .bool x.b.reg, .int .i64 x.b.n, .int .i64 x.fn, va]] w R := by
 have e : insL pl x = callL pl x := by
  unfold insL;rw [hop];rfl
 rw [e] at hR;obtain ⟨HR, HS, HP, HI⟩ := lh4 hR h hP hI;have lP : K.PB < w.heap.size := qa h.blk;have hbase := h.base;have hlt := K.hlt;have hI2 := hI;clear e hR h hP hI;have Hcl := lh fun (W : World) (hs : PiS K code vc W) (hp : PiP K pl W) (ha : rpVal.SL W K.PB x.args va) => qge K code vc pl x va W hs hp ha hI2.few hI2.args (fun _ => hI2.hi) hc;have HA := lh hA;clear hI2 hA;rw [hop] at Hcl ⊢
 go_enter Tryz.func28, Tryz.ntmps28
 go_upto_region 1 with fail
 obtain ⟨W0, hW0, hb0, hX0⟩ := box1 w (.cells #[.int .i64 20, .int .i64 x.dst, .bool x.a.reg, .int .i64 x.a.n, .bool x.b.reg, .int .i64 x.b.n, .int .i64 x.fn, va] 71) rfl;rw [<- hW0];have HS0 := lh (HS.out.below hb0);have HP0 := lh (HP.out.below (hb0.mono (Nat.le_of_lt lP)));have hap0 := HS.out.apart (Nat.le_refl w.heap.size);have HG0 := lh (PiG.of_below (K := K) (vc := vc) hb0);have HX0 := lh hX0;have hne : w.heap.size ≠ K.PB := by omega
 obtain ⟨x0, x1, x2, x3, x4, x5, x6, x7⟩ := qe hX0;have lX := qa hX0;clear hW0 hb0 hX0;have HA0 : Hid (rpVal.SL W0 K.PB x.args va) := lh (HA.out.mono fun p u hp hc => ((HG0.out.below HS.out (Nat.le_refl _)).cell hp).trans hc)
 go_wp2_with fail
 refine Hcl.out W0 HS0.out HP0.out HA0.out _ (fun w1 v1 hs1 hg1 => ?_);have HF := lh (HR.out w1 v1 hs1 (HG0.out.trans hg1));clear hs1 hg1;go_wp2;refine bodyPost_ret (results_none rfl _ _ _) rfl ?_;exact HF.out
theorem qnz (K : PiK) (code : List Mac) (vc : Value) (pl : List Int) (x : UIns) (va : Value) (w : World) (h : PiS K code vc w) (hP : PiP K pl w) (hI : InsP pl x) (hop : x.op = 19) (hc : code.length ≤ 80000) (R : Ending -> World -> Prop)
 (hR : ∀ w' vc', PiS K (code ++ insL pl x) vc' w' -> PiG K w vc w' vc' -> R (.returned (.tuple #[])) w') :
 Calls Tryz.prog 28 #[.pointer (some ⟨K.PB, 0, none⟩), .agg #[.int .i64 x.op, .int .i64 x.dst, .bool x.a.reg, .int .i64 x.a.n, .bool x.b.reg, .int .i64 x.b.n, .int .i64 x.fn, va]] w R := by
 have e : insL pl x = (heldL pl x.a 14).1 ++ ((heldL pl x.b 15).1 ++ [⟨34, 0, (heldL pl x.a 14).2, (heldL pl x.b 15).2, 0⟩]) := by
  unfold insL;rw [hop];rfl
 rw [e] at hR;obtain ⟨HR, HS, HP, HI⟩ := lh4 hR h hP hI;have lP : K.PB < w.heap.size := qa h.blk;have hbase := h.base;have hlt := K.hlt;have hI2 := hI;clear e hR h hP hI;clear hI2;rw [hop]
 go_enter Tryz.func28, Tryz.ntmps28
 go_upto_region 1 with fail
 obtain ⟨W0, hW0, hb0, hX0⟩ := box1 w (.cells #[.int .i64 19, .int .i64 x.dst, .bool x.a.reg, .int .i64 x.a.n, .bool x.b.reg, .int .i64 x.b.n, .int .i64 x.fn, va] 71) rfl;rw [<- hW0];have HS0 := lh (HS.out.below hb0);have HP0 := lh (HP.out.below (hb0.mono (Nat.le_of_lt lP)));have hap0 := HS.out.apart (Nat.le_refl w.heap.size);have HG0 := lh (PiG.of_below (K := K) (vc := vc) hb0);have HX0 := lh hX0;have hne : w.heap.size ≠ K.PB := by omega
 obtain ⟨x0, x1, x2, x3, x4, x5, x6, x7⟩ := qe hX0;have lX := qa hX0;clear hW0 hb0 hX0;have hl1 := q0y pl x.a 14;have hl2 := q0y pl x.b 15
 go_wp2_with fail
 refine q2o K code vc pl x.a 14 _ HS0.out HP0.out HI.out.a (by omega) _ (fun w1 v1 hs1 hg1 => ?_);have HX1 := lh ((hg1.keep lX hne hap0).trans HX0.out);have HP1 := lh (HP0.out.step HS0.out hg1);have HS1 := lh hs1;have HG1 := lh (HG0.out.trans hg1);clear hs1 hg1 x0 x1 x2 x3 x4 x5 x6 x7 lX;obtain ⟨x0, x1, x2, x3, x4, x5, x6, x7⟩ := qe HX1.out;have lX := qa HX1.out;generalize heldL pl x.a 14 = q at *;obtain ⟨ca, a⟩ := q;dsimp only at *
 go_wp2_with fail
 refine q2o K _ v1 pl x.b 15 _ HS1.out HP1.out HI.out.b (by rw [List.length_append]; omega) _ (fun w2 v2 hs2 hg2 => ?_);have HS2 := lh hs2;have HG2 := lh (HG1.out.trans hg2);clear hs2 hg2;generalize heldL pl x.b 15 = q at *;obtain ⟨cb, b⟩ := q;dsimp only at *
 go_wp2_with fail
 refine q00 K _ v2 ⟨34, 0, a, b, 0⟩ _ HS2.out (by rw [List.length_append, List.length_append]; omega) _ (fun w3 v3 hs3 hg3 => ?_);have HF := lh (HR.out w3 v3 (by have h1 := hs3; rw [List.append_assoc, List.append_assoc] at h1; exact h1) (HG2.out.trans hg3));clear hs3 hg3;go_wp2;refine bodyPost_ret (results_none rfl _ _ _) rfl ?_;exact HF.out
theorem qo0 (K : PiK) (code : List Mac) (vc : Value) (pl : List Int) (x : UIns) (va : Value) (w : World) (h : PiS K code vc w) (hP : PiP K pl w) (hI : InsP pl x) (hop : x.op = 1) (hr : x.a.reg = false) (hc : code.length ≤ 80000) (R : Ending -> World -> Prop)
 (hR : ∀ w' vc', PiS K (code ++ insL pl x) vc' w' -> PiG K w vc w' vc' -> R (.returned (.tuple #[])) w') :
 Calls Tryz.prog 28 #[.pointer (some ⟨K.PB, 0, none⟩), .agg #[.int .i64 x.op, .int .i64 x.dst, .bool x.a.reg, .int .i64 x.a.n, .bool x.b.reg, .int .i64 x.b.n, .int .i64 x.fn, va]] w R := by
 have e : insL pl x = toldL pl ⟨1, 0, 0, 0, x.a.n⟩ x.dst := by
  unfold insL;rw [hop, if_pos rfl, hr];rfl
 rw [e] at hR;obtain ⟨HR, HS, HP, HI⟩ := lh4 hR h hP hI;have lP : K.PB < w.heap.size := qa h.blk;have hbase := h.base;have hlt := K.hlt;have hI2 := hI;clear e hR h hP hI;have d0 := hI2.dst (by omega) (by omega) (by omega);obtain ⟨Hd0, Hr⟩ := lh2 d0 hr;clear d0 hI2 hr;rw [hop]
 go_enter Tryz.func28, Tryz.ntmps28
 go_upto_region 1 with fail
 obtain ⟨W0, hW0, hb0, hX0⟩ := box1 w (.cells #[.int .i64 1, .int .i64 x.dst, .bool x.a.reg, .int .i64 x.a.n, .bool x.b.reg, .int .i64 x.b.n, .int .i64 x.fn, va] 71) rfl;rw [<- hW0];have HS0 := lh (HS.out.below hb0);have HP0 := lh (HP.out.below (hb0.mono (Nat.le_of_lt lP)));have hap0 := HS.out.apart (Nat.le_refl w.heap.size);have HG0 := lh (PiG.of_below (K := K) (vc := vc) hb0);have HX0 := lh hX0;have hne : w.heap.size ≠ K.PB := by omega
 obtain ⟨x0, x1, x2, x3, x4, x5, x6, x7⟩ := qe hX0;have lX := qa hX0;clear hW0 hb0 hX0;rw [Hr.out] at x2
 go_wp2_with fail
 refine q2m K code vc pl ⟨1, 0, 0, 0, x.a.n⟩ x.dst _ HS0.out HP0.out Hd0.out HI.out.hi (by omega) _ (fun w1 v1 hs1 hg1 => ?_);have HF := lh (HR.out w1 v1 hs1 (HG0.out.trans hg1));clear hs1 hg1;go_wp2;refine bodyPost_ret (results_none rfl _ _ _) rfl ?_;exact HF.out
theorem qo1 (K : PiK) (code : List Mac) (vc : Value) (pl : List Int) (x : UIns) (va : Value) (w : World) (h : PiS K code vc w) (hP : PiP K pl w) (hI : InsP pl x) (hop : x.op = 1) (hr : x.a.reg = true) (hc : code.length ≤ 80000) (R : Ending -> World -> Prop)
 (hR : ∀ w' vc', PiS K (code ++ insL pl x) vc' w' -> PiG K w vc w' vc' -> R (.returned (.tuple #[])) w') :
 Calls Tryz.prog 28 #[.pointer (some ⟨K.PB, 0, none⟩), .agg #[.int .i64 x.op, .int .i64 x.dst, .bool x.a.reg, .int .i64 x.a.n, .bool x.b.reg, .int .i64 x.b.n, .int .i64 x.fn, va]] w R := by
 have e : insL pl x = q0k (plAt pl x.dst) (plAt pl x.a.n) := by
  unfold insL;rw [hop, if_pos rfl, if_pos hr]
 rw [e] at hR;obtain ⟨HR, HS, HP, HI⟩ := lh4 hR h hP hI;have lP : K.PB < w.heap.size := qa h.blk;have hbase := h.base;have hlt := K.hlt;have hI2 := hI;clear e hR h hP hI;have d0 := hI2.dst (by omega) (by omega) (by omega);have a0 := hI2.a hr;have d1 := hI2.hi;have Hr := lh hr;clear hI2 hr;rw [hop]
 go_enter Tryz.func28, Tryz.ntmps28
 go_upto_region 1 with fail
 obtain ⟨W0, hW0, hb0, hX0⟩ := box1 w (.cells #[.int .i64 1, .int .i64 x.dst, .bool x.a.reg, .int .i64 x.a.n, .bool x.b.reg, .int .i64 x.b.n, .int .i64 x.fn, va] 71) rfl;rw [<- hW0];have HS0 := lh (HS.out.below hb0);have HP0 := lh (HP.out.below (hb0.mono (Nat.le_of_lt lP)));have hap0 := HS.out.apart (Nat.le_refl w.heap.size);have HG0 := lh (PiG.of_below (K := K) (vc := vc) hb0);have HX0 := lh hX0;have hne : w.heap.size ≠ K.PB := by omega
 obtain ⟨x0, x1, x2, x3, x4, x5, x6, x7⟩ := qe hX0;have lX := qa hX0;clear hW0 hb0 hX0;rw [Hr.out] at x2;obtain ⟨b, off, c, k, ha4, hb, hk, hcell, hp0, hp1⟩ := HP0.out.cell d0 d1;obtain ⟨b', off', c', k', ha4', hb', hk', hcell', hp0', hp1'⟩ := HP0.out.cell a0.1 a0.2;rw [ha4] at ha4';injection ha4' with e1 e2 e3
 injection e1 with e1
 injection e1 with e1 e4
 subst e1 e4;have hS := (q0x HS0.out.blk).2.2.2.2.1;rw [ha4] at hS;have lPB := qa HS0.out.blk;have lb : b < W0.heap.size := by omega
 have k0 := nnn k;have k0' : (0 : Int) ≤ (k' : Int) := Int.natCast_nonneg _;have k1 : (k : Int) < (pl.length : Int) := by omega
 have k1' : (k' : Int) < (pl.length : Int) := by omega
 obtain ⟨p, hp⟩ := nmm (plAt pl x.dst);obtain ⟨q, hq⟩ := nmm (plAt pl x.a.n);rw [<- hp] at hcell hp0 hp1;rw [<- hq] at hcell' hp0' hp1';rw [<- hp, <- hq] at HR;rw [hk] at x1;rw [hk'] at x3;clear hp hq hk hk' ha4 d0 d1 a0 e2 e3
 go_upto_region 5 with fail
 go_still_tail 18, (by kernel_rfl)
 change wpList _ _ _ _ _ W0.drew;have hbd : Below W0.heap.size W0 W0.drew := (Below.refl _ _).drew
 go_wp2_with fail
 refine q4b K code vc p q (by omega) (by omega) _ (HS0.out.below hbd) (by omega) _ (fun w1 v1 hs1 hg1 => ?_);have HF := lh (HR.out w1 v1 hs1 (HG0.out.trans ((PiG.of_below hbd).trans hg1)));clear hs1 hg1;go_wp2;refine bodyPost_ret (results_none rfl _ _ _) rfl ?_;exact HF.out
theorem qlk (K : PiK) (code : List Mac) (vc : Value) (pl : List Int) (x : UIns) (va : Value) (w : World) (h : PiS K code vc w) (hP : PiP K pl w) (hI : InsP pl x) (n1 : ¬ x.op = 1) (n16 : ¬ x.op = 16) (n17 : ¬ x.op = 17) (n18 : ¬ x.op = 18) (n19 : ¬ x.op = 19) (n20 : ¬ x.op = 20) (n21 : ¬ x.op = 21) (n22 : ¬ x.op = 22) (hc : code.length ≤ 80000) (R : Ending -> World -> Prop)
 (hR : ∀ w' vc', PiS K (code ++ insL pl x) vc' w' -> PiG K w vc w' vc' -> R (.returned (.tuple #[])) w') :
 Calls Tryz.prog 28 #[.pointer (some ⟨K.PB, 0, none⟩), .agg #[.int .i64 x.op, .int .i64 x.dst, .bool x.a.reg, .int .i64 x.a.n, .bool x.b.reg, .int .i64 x.b.n, .int .i64 x.fn, va]] w R := by
 have e : insL pl x = twoL pl x := by
  unfold insL;rw [if_neg n1, if_neg n16, if_neg n17, if_neg n18, if_neg n19, if_neg n20, if_neg n21, if_neg n22]
 rw [e] at hR;obtain ⟨HR, HS, HP⟩ := lh3 hR h hP;have lP : K.PB < w.heap.size := qa h.blk;have hd0 := hI.dst n19 n20 n22;obtain ⟨HI, Hd0⟩ := lh2 hI hd0;clear e hR h hP hI hd0
 go_enter Tryz.func28, Tryz.ntmps28
 go_upto_region 1 with fail
 obtain ⟨W0, hW0, hb0, hX0⟩ := box1 w (.cells #[.int .i64 x.op, .int .i64 x.dst, .bool x.a.reg, .int .i64 x.a.n, .bool x.b.reg, .int .i64 x.b.n, .int .i64 x.fn, va] 71) rfl;rw [<- hW0];have HS0 := lh (HS.out.below hb0);have HP0 := lh (HP.out.below (hb0.mono (Nat.le_of_lt lP)));have HG0 := lh (PiG.of_below (K := K) (vc := vc) hb0);obtain ⟨x0, x1, x2, x3, x4, x5, x6, x7⟩ := qe hX0;have lX := qa hX0;clear hW0 hb0 hX0
 go_wp2_with fail
 refine qkm K code vc pl x va _ HS0.out HP0.out HI.out.a HI.out.b ⟨Hd0.out, HI.out.hi⟩ HI.out.op (by omega) _ (fun w1 v1 hs1 hg1 => ?_);have HF := lh (HR.out w1 v1 hs1 (HG0.out.trans hg1));clear hs1 hg1;go_wp2;refine bodyPost_ret (results_none rfl _ _ _) rfl ?_;exact HF.out
theorem qg3 (K : PiK) (code : List Mac) (vc : Value) (pl : List Int) (x : UIns) (va : Value) (w : World) (h : PiS K code vc w) (hP : PiP K pl w) (hI : InsP pl x) (hA : rpVal.SL w K.PB x.args va) (hc : code.length ≤ 80000) (R : Ending -> World -> Prop)
 (hR : ∀ w' vc', PiS K (code ++ insL pl x) vc' w' -> PiG K w vc w' vc' -> R (.returned (.tuple #[])) w') :
 Calls Tryz.prog 28 #[.pointer (some ⟨K.PB, 0, none⟩), .agg #[.int .i64 x.op, .int .i64 x.dst, .bool x.a.reg, .int .i64 x.a.n, .bool x.b.reg, .int .i64 x.b.n, .int .i64 x.fn, va]] w R := by
 by_cases n1 : x.op = 1
 ·cases hr : x.a.reg with
  | true =>
    have := qo1 K code vc pl x va w h hP hI n1 hr hc R hR
    rwa [hr] at this
  | false =>
    have := qo0 K code vc pl x va w h hP hI n1 hr hc R hR
    rwa [hr] at this
 by_cases n16 : x.op = 16
 ·exact qnw K code vc pl x va w h hP hI n16 hc R hR
 by_cases n17 : x.op = 17
 ·exact qnx K code vc pl x va w h hP hI n17 hc R hR
 by_cases n18 : x.op = 18
 ·exact qny K code vc pl x va w h hP hI n18 hc R hR
 by_cases n19 : x.op = 19
 ·exact qnz K code vc pl x va w h hP hI n19 hc R hR
 by_cases n20 : x.op = 20
 ·exact qo2 K code vc pl x va w h hP hI n20 hA hc R hR
 by_cases n21 : x.op = 21
 ·exact qo3 K code vc pl x va w h hP hI n21 hc R hR
 by_cases n22 : x.op = 22
 ·exact qo4 K code vc pl x va w h hP hI n22 hc R hR
 exact qlk K code vc pl x va w h hP hI n1 n16 n17 n18 n19 n20 n21 n22 hc R hR
def left (s : Int) (xs : List Int) : List Mac := xs.zipIdx.map fun p => ⟨35, p.1, 0, 0, s + (p.2 : Int)⟩
theorem q2k (s : Int) (xs : List Int) : (left s xs).length = xs.length := by simp [left]
theorem qj1 {s : Int} {xs : List Int} {k : Nat} (h : k < xs.length) : (left s xs).take (k + 1) = (left s xs).take k ++ [⟨35, xs.getD k 0, 0, 0, s + (k : Int)⟩] := by
 rw [List.take_succ_eq_append_getElem (by rw [q2k]; exact h)];simp [left, List.getD_eq_getElem?_getD, h]
def q1n : Mac := ⟨45, 0, 0, 0, 0⟩
theorem qbe (a n : Int) (hn : 0 < n) (hm : n ≤ 1000000) (ha : I64 a) (w : World) (R : Ending -> World -> Prop) (hR : R (.returned (.int .i64 (a % n))) w) : Calls Tryz.prog 11 #[.int .i64 a, .int .i64 n] w R := by
 obtain ⟨h1, h2⟩ := ha;have hne : (n == 0) = false := by simp; omega
 have hlt := Int.emod_lt_of_pos a hn;have hge := Int.emod_nonneg a (show n ≠ 0 by omega);have he := @Int.tmod_eq_emod a n
 by_cases hc : 0 ≤ a ∨ n ∣ a
 ·rw [if_pos hc] at he;have ht : a.tmod n = a % n := by omega
  generalize a % n = r at *;have Ht := lh ht;clear he ht hc h1 h2
  by_cases h0 : 0 ≤ a.tmod n
  ·go_enter Tryz.func11, Tryz.ntmps11
   go_wp2;rw [<- Ht.out] at hR;exact hR
  ·have := Ht.out;omega
 ·rw [if_neg hc] at he;have ht : a.tmod n = a % n - n := by omega
  have hn0 : a % n ≠ 0 := fun e => hc (.inr (Int.dvd_of_emod_eq_zero e));generalize a % n = r at *;have Ht := lh ht;have h0 : a.tmod n < 0 := by omega
  have h5 : -1000000 ≤ a.tmod n := by omega
  clear he ht hc h1 h2
  go_enter Tryz.func11, Tryz.ntmps11
  go_wp2;have e := Ht.out;rw [show r = a.tmod n + n from by omega] at hR;exact hR
def q2t (s : Int) (xs : List Int) : List Mac := xs.zipIdx.map fun p => ⟨36, 0, p.1, 0, s + (p.2 : Int)⟩
theorem q1e (s : Int) (xs : List Int) : (q2t s xs).length = xs.length := by simp [q2t]
theorem qbt {s : Int} {xs : List Int} {k : Nat} (h : k < xs.length) : (q2t s xs).take (k + 1) = (q2t s xs).take k ++ [⟨36, 0, xs.getD k 0, 0, s + (k : Int)⟩] := by
 rw [List.take_succ_eq_append_getElem (by rw [q1e]; exact h)];simp [q2t, List.getD_eq_getElem?_getD, h]
theorem q80 (s : Int) (v : Value) (xs : List Int) (w : World) (h : rpInt.SL w w.heap.size xs v) (hs0 : 0 ≤ s) (hs1 : s ≤ 1000) (hn : xs.length ≤ 8) (R : Ending -> World -> Prop) 
 (hR : ∀ w' v', Below w.heap.size w w' -> w'.ownsRow w.heap.size 45 5 v' xs.length ((q2t s xs).flatMap Mac.cells) -> R (.returned v') w') :
 Calls Tryz.prog 53 #[.agg #[.int .i64 s, v]] w R := by
 obtain ⟨A, c, rfl, hm, _, h⟩ := h.cases_;obtain ⟨i0, hi, hz0, hz1, hz2⟩ := info_parts q7o
 go_enter Tryz.func53, Tryz.ntmps53
 go_wp2
 go_loopw [3, 9] (fun u i wr => ∃ k : Nat, k ≤ xs.length ∧ i = .int .i64 k ∧ wr.ownsRow (w.heap.size + 1) 45 5 u k (((q2t s xs).take k).flatMap Mac.cells) ∧ Below (w.heap.size + 1) (w.alloc (Obj.cells #[Value.int IntKind.i64 s, Value.slice A xs.length c] 28)) wr) (fun _ i _ => xs.length - (intOf i).toNat)
 case atStart => exact ⟨0, Nat.zero_le _, rfl, World.ownsRow_nil _ _ _ _, Below.refl _ _⟩
 case round =>
  obtain ⟨k, hk, rfl, hown, hbel⟩ := hrel
  by_cases hlt : k < xs.length
  ·obtain ⟨b, off, rfl, hb, c0⟩ := h.int_at hlt;have hw2 : w.heap.size + 1 ≤ wr.heap.size := by have := hbel.size; simpa using this
   have d0 : wr.cell? ⟨w.heap.size, 0, none⟩ = some (.int .i64 s) := by rw [hbel.cell (by simp)]; simp
   have Hs := lh (qbt (s := s) hlt);generalize hx : xs.getD k 0 = x at *;clear hx h;have d1 : wr.cell? ⟨b, off + k, none⟩ = some (.int .i64 x) := (hbel.cell (by show b < _; omega)).trans ((World.cell?_alloc_lt _ _ _ hb).trans c0);clear c0
   go_wp2_with (at_builtin; refine wpList_append_own _ rfl _ _ 35 rfl (w.heap.size + 1) 45 i0 _ 5 40 Tryz.underlying35 hi hz0 hz1 hz2 rfl (by decide) _ _ _ rfl (hown.alloc _) ⟨wr.heap.size, 0, none⟩ 1 1 [.int .i64 36, .int .i64 0, .int .i64 x, .int .i64 0, .int .i64 (s + k)] rfl rfl ?_ ?_ ?_ ?_ ?_ ?_)
   ·exact World.news_of_block (cs := #[.int .i64 36, .int .i64 0, .int .i64 x, .int .i64 0, .int .i64 (s + k)]) (t := 45) (fr := (0, 0)) (heap_alloc_new wr _)
   ·simp [Value.oneCell']
   ·unfold maxLen; omega
   ·omega
   ·simp; omega
   ·intro u' w1 hown1 hgrow _;have hbel1 := (hbel.alloc hw2 _).grown hgrow (by simp; omega) (fun g hg => (hown.lt g hg).1);clear hown hbel hgrow;go_wp2
    go_roundw
    case rel =>
     refine ⟨k + 1, by omega, by go_num, ?_, hbel1⟩;rw [Hs.out, List.flatMap_append];exact hown1
    case measure => simp [intOf]; omega
  ·obtain rfl : k = xs.length := by omega
   rw [List.take_of_length_le (by rw [q1e]; omega)] at hown;go_wp2;exact hR _ _ ((Below.refl _ _).alloc (Nat.le_refl _) _ |>.trans (hbel.mono (by omega))) (q1y hown (by omega))
theorem q98 (s : Int) (v : Value) (xs : List Int) (w : World) (h : rpInt.SL w w.heap.size xs v) (hs0 : 0 ≤ s) (hs1 : s ≤ 1000) (hn : xs.length ≤ 8) (R : Ending -> World -> Prop) 
 (hR : ∀ w' v', Below w.heap.size w w' -> w'.ownsRow w.heap.size 45 5 v' (xs.length + 1) ((left s xs ++ [q1n]).flatMap Mac.cells) -> R (.returned v') w') :
 Calls Tryz.prog 25 #[.agg #[.int .i64 s, v]] w R := by
 obtain ⟨A, c, rfl, hm, _, h⟩ := h.cases_;obtain ⟨i0, hi, hz0, hz1, hz2⟩ := info_parts q7o
 go_enter Tryz.func25, Tryz.ntmps25
 go_wp2
 go_loopw [3, 9] (fun u i wr => ∃ k : Nat, k ≤ xs.length ∧ i = .int .i64 k ∧ wr.ownsRow (w.heap.size + 1) 45 5 u k (((left s xs).take k).flatMap Mac.cells) ∧ Below (w.heap.size + 1) (w.alloc (Obj.cells #[Value.int IntKind.i64 s, Value.slice A xs.length c] 28)) wr) (fun _ i _ => xs.length - (intOf i).toNat)
 case atStart => exact ⟨0, Nat.zero_le _, rfl, World.ownsRow_nil _ _ _ _, Below.refl _ _⟩
 case round =>
  obtain ⟨k, hk, rfl, hown, hbel⟩ := hrel;have hw2 : w.heap.size + 1 ≤ wr.heap.size := by have := hbel.size; simpa using this
  have d0 : wr.cell? ⟨w.heap.size, 0, none⟩ = some (.int .i64 s) := by rw [hbel.cell (by simp)]; simp
  have ow : ∀ g, u3.ownBlock = some g -> w.heap.size + 1 ≤ g := fun g hg => (hown.lt g hg).1
  by_cases hlt : k < xs.length
  ·obtain ⟨b, off, rfl, hb, c0⟩ := h.int_at hlt;have Hs := lh (qj1 (s := s) hlt);generalize hx : xs.getD k 0 = x at *;clear hx h;have d1 : wr.cell? ⟨b, off + k, none⟩ = some (.int .i64 x) := (hbel.cell (by show b < _; omega)).trans ((World.cell?_alloc_lt _ _ _ hb).trans c0);clear c0
   go_wp2_with (at_builtin; refine wpList_append_own _ rfl _ _ 35 rfl (w.heap.size + 1) 45 i0 _ 5 40 Tryz.underlying35 hi hz0 hz1 hz2 rfl (by decide) _ _ _ rfl (hown.alloc _) ⟨wr.heap.size, 0, none⟩ 1 1 [.int .i64 35, .int .i64 x, .int .i64 0, .int .i64 0, .int .i64 (s + k)] rfl rfl ?_ ?_ ?_ ?_ ?_ ?_)
   ·exact World.news_of_block (cs := #[.int .i64 35, .int .i64 x, .int .i64 0, .int .i64 0, .int .i64 (s + k)]) (t := 45) (fr := (0, 0)) (heap_alloc_new wr _)
   ·simp [Value.oneCell']
   ·unfold maxLen; omega
   ·omega
   ·simp; omega
   ·intro u' w1 hown1 hgrow _;have hbel1 := (hbel.alloc hw2 _).grown hgrow (by simp; omega) ow;clear hown hbel hgrow;go_wp2
    go_roundw
    case rel =>
     refine ⟨k + 1, by omega, by go_num, ?_, hbel1⟩;rw [Hs.out, List.flatMap_append];exact hown1
    case measure => simp [intOf]; omega
  ·obtain rfl : k = xs.length := by omega
   rw [List.take_of_length_le (by rw [q2k]; omega)] at hown
   go_wp2_with (at_builtin; refine wpList_append_own _ rfl _ _ 35 rfl (w.heap.size + 1) 45 i0 _ 5 40 Tryz.underlying35 hi hz0 hz1 hz2 rfl (by decide) _ _ _ rfl (hown.alloc _) ⟨wr.heap.size, 0, none⟩ 1 1 [.int .i64 45, .int .i64 0, .int .i64 0, .int .i64 0, .int .i64 0] rfl rfl ?_ ?_ ?_ ?_ ?_ ?_)
   ·exact World.news_of_block (cs := #[.int .i64 45, .int .i64 0, .int .i64 0, .int .i64 0, .int .i64 0]) (t := 45) (fr := (0, 0)) (heap_alloc_new wr _)
   ·simp [Value.oneCell']
   ·unfold maxLen; omega
   ·omega
   ·simp; omega
   ·intro u' w1 hown1 hgrow _;have hbel1 := (hbel.alloc hw2 _).grown hgrow (by simp; omega) ow;clear hown hbel hgrow;go_wp2;refine hR _ _ ((Below.refl _ _).alloc (Nat.le_refl _) _ |>.trans (hbel1.mono (by omega))) (q1y (B := w.heap.size + 1) ?_ (by omega));rw [List.flatMap_append];exact hown1
end Go.Proofs.YtdanebboiekieaaGreatDoor
