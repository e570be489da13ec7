/- The walks, part 31. -/
import Derived.Test.YtdanebboiekieaaGreatDoorP30
set_option linter.unusedSimpArgs false
set_option linter.unusedVariables false
set_option maxRecDepth 100000
set_option maxHeartbeats 16000000
namespace Go.Proofs.YtdanebboiekieaaGreatDoor
open Go.RowKit
theorem qjh (w : World) : (w.alloc (Obj.cells #[] 3)).ownsRow w.heap.size 3 1 (.slice (some ⟨w.heap.size, 0, none⟩) 0 0) ([] : List Int).length (([] : List Int).flatMap qh) :=
 ⟨by decide, .inr ⟨w.heap.size, 0, #[], rfl, Nat.le_refl _, heap_alloc_new _ _, Nat.le_refl _, by decide, rfl, rfl⟩⟩
theorem PickIs.homes {u : Unt} (hT : qbg u) {k many : Int} {xs : List Mac} {fl : Int × Int} (h : PickIs u k many xs fl) : (¬ fl.1 = 0 ∧ xs = []) ∨ (fl = (0, 0) ∧ 2 ≤ many ∧ many ≤ 14 ∧ q0v xs = (0, 0) ∧ ∀ m ∈ xs, ∃ N, HomeM many N m) := by
 rcases h with ⟨h1, h2, h3⟩ | ⟨j, f, n, C, A, L, rfl, hc, rfl, rfl⟩
 ·exact .inl ⟨h2, h3⟩
 ·have hci : ColIs u (j : Int) many _ (0, 0) := .inr (.inr ⟨j, f, n, C, A, L, rfl, hc, rfl, rfl⟩);have := hc.homes (fits hci) (hT hc.ok f (List.mem_of_getElem? hc.fn));exact .inr ⟨rfl, hc.many.1, hc.many.2, this.1, this.2⟩
def regsM (d a b : Bool) (m : Mac) : List Int := (if d = true then [m.dst] else []) ++ (if a = true then [m.a] else []) ++ if b = true then [m.b] else []
theorem qh6 {many N : Int} {m : Mac} (h : HomeM many N m) : ∀ r ∈ regsM (qu m.op).d (qu m.op).a (qu m.op).b m, RegH many r := by
 intro r hr;have h1 := h.d;have h2 := h.a;have h3 := h.b;unfold regsM at hr
 rcases List.mem_append.1 hr with hr | hr
 ·rcases List.mem_append.1 hr with hr | hr
  ·split at hr
   ·rename_i e;rw [if_pos e] at h1;rw [List.mem_singleton] at hr;rw [hr]; exact h1
   ·cases hr
  ·split at hr
   ·rename_i e;rw [if_pos e] at h2;rw [List.mem_singleton] at hr;rw [hr]; exact h2
   ·cases hr
 ·split at hr
  ·rename_i e;rw [if_pos e] at h3;rw [List.mem_singleton] at hr;rw [hr]; exact h3
  ·cases hr
theorem q81 {u : Unt} (hu : UntI u) (hT : qbg u) (k many : Int) (hmn : I64 many) (gA fA : Option Addr) (gn gc fn fc : Nat) (w : World) (hW : Ways w) (hg : rpGlobal.SL w w.heap.size u.globals (.slice gA gn gc)) (hf : rpFun.SL w w.heap.size u.funcs (.slice fA fn fc)) (R : Ending -> World -> Prop)
 (hR : ∀ w', Below w.heap.size w w' -> R (.returned (.bool true)) w') :
 Calls Tryz.prog 6 #[.agg #[.slice gA gn gc, .slice fA fn fc], .int .i64 k, .int .i64 many] w R := by
 obtain ⟨i9, hi9, hy0, hy1, hy2⟩ := info_parts q44;obtain ⟨m, hm⟩ : ∃ m, m = 2 + many % 13 := ⟨_, rfl⟩;have hm1 := Int.emod_nonneg many (show (13 : Int) ≠ 0 by decide);have hm2 := Int.emod_lt_of_pos many (show (0 : Int) < 13 by decide);obtain ⟨xs, fl, hpk⟩ := qcn u k m;have hho := hpk.homes hT;obtain ⟨HPk, HT, Hho, HR, Hg, Hf, HW, Hmn, Hm⟩ := lh9 hpk hT hho hR hg hf hW hmn hm;have ewm : IntKind.i64.wrap (2 + many % 13) = m := (IntWalk.i64_in _ (by omega)).trans hm.symm;clear hR hg hf hW hmn hpk hm hm1 hm2 hT hho
 go_enter Tryz.func6, Tryz.ntmps6
 go_upto_region 1 with fail
 obtain ⟨W1, hW1, hb1, hU1⟩ := box1 w (.cells #[.slice gA gn gc, .slice fA fn fc] 25) rfl;rw [<- hW1];obtain ⟨Hb1, HU1⟩ := lh2 hb1 hU1;have hz1 := hb1.size;clear hW1 hb1 hU1
 go_wp2_with fail
 refine q9c _ (HW.out.up Hb1.out HW.out.1) _ (fun w2 hb2 => ?_);have Hb2 := btt Hb1 hb2 hz1;have HU2 := bkk hb2 HU1;have hz2 := Hb2.out.size;clear hb2 HU1 Hb1;obtain ⟨u0, u1, lU⟩ := cbl HU2.out
 go_wp2_with fail
 refine qbe many 13 (by decide) (by decide) Hmn.out _ _ ?_
 go_wp2_with fail
 refine q77 hu HT.out HPk.out _ _ _ _ _ _ _ (HW.out.up Hb2.out HW.out.1) (Hg.out.up Hb2.out hz2) (Hf.out.up Hb2.out hz2) _ (fun w3 v3 hb3 ho3 => ?_);obtain ⟨xA, xc, rfl⟩ := qj ho3;have Hsl3 := lh (q61 ho3 (Nat.le_refl w3.heap.size));have Hb3 := btt Hb2 hb3 hz2;have hz3 := Hb3.out.size;clear hb3 ho3 u0 u1 lU HU2 Hb2
 rcases Hho.out with ⟨h0, rfl⟩ | ⟨rfl, hm2, hm14, hmf, hhm⟩
 ·obtain ⟨⟨c, a⟩, hca⟩ : ∃ p, p = fl := ⟨_, rfl⟩;subst hca;have h0 : ¬ c = 0 := h0;have HX : Hid (∀ X, Below w3.heap.size w3 X -> R (.returned (.bool true)) X) := lh fun X hX => HR.out _ (Hb3.out.trans (hX.mono hz3));clear Hb3;dsimp only [List.length_nil];go_wp2;exact HX.out _ (by exact bl0)
 ·have HX : Hid (∀ X, Below w3.heap.size w3 X -> R (.returned (.bool true)) X) := lh fun X hX => HR.out _ (Hb3.out.trans (hX.mono hz3));have Hhm := lh hhm
  have hx5 : xs.length ≤ 5000 := by
   apply Classical.byContradiction;intro h;unfold q0v at hmf;rw [if_pos (by omega)] at hmf
   cases hmf
  obtain ⟨W5, hW5, hb5, hE5⟩ := box1 w3 (.cells #[.int .i64 0, .int .i64 0] 30) rfl;have HW5 := lh hW5.symm;have Hsl5 := lh (Hsl3.out.up hb5 hb5.size);have HX5 : Hid (∀ X, Below W5.heap.size W5 X -> R (.returned (.bool true)) X) := lh fun X hX => HX.out _ (hb5.trans (hX.mono hb5.size));have Hmf := lh hmf;clear hW5 hb5 HX Hb3 Hsl3 hhm hmf;obtain ⟨e0, e1, lE⟩ := cbl hE5;clear hE5
  go_upto_region 5 with fail
  rw [HW5.out];go_wp2;clear e0 e1 lE
  go_loopg [10] xs.length (fun gh s10 wr => ∃ i : Nat, i ≤ xs.length ∧ gh = xs.length - i ∧ s10 = .int .i64 (i : Int) ∧ Hid (Below W5.heap.size W5 wr))
  case atStart => exact ⟨0, Nat.zero_le _, rfl, rfl, lh (Below.refl _ _)⟩
  case round =>
   obtain ⟨i, hi, rfl, rfl, HB⟩ := hrel;have i0 := nnn i;have hsl := Hsl5.out.up HB.out HB.out.size
   by_cases hlt : i < xs.length
   ·have i1 : (i : Int) < (xs.length : Int) := Int.ofNat_lt.2 hlt;obtain ⟨b, off, x, hA, hb, hx, m0, m1, m2, m3, m4⟩ := hsl.mac_at hlt;subst hA;obtain ⟨N, hh⟩ := Hhm.out x (List.mem_of_getElem? hx);obtain ⟨f1, f2, f3, f4, f5, _⟩ := q9q x.op hh.kn;have hrh := qh6 hh;obtain ⟨sh, hsh⟩ : ∃ s, s = qu x.op := ⟨_, rfl⟩;rw [<- hsh] at f3 f4 f5 hrh;have Hrh := lh hrh;have f3 : hasN (fieldsOf x.op) 100 = sh.d := f3;have f4 : hasN (fieldsOf x.op) 97 = sh.a := f4;have f5 : hasN (fieldsOf x.op) 98 = sh.b := f5;have Hm1 : Hid (∀ W, Below wr.heap.size wr W -> W.cell? ⟨b, off + i * 5 + 1, none⟩ = some (.int .i64 x.dst) ∧ W.cell? ⟨b, off + i * 5 + 2, none⟩ = some (.int .i64 x.a) ∧ W.cell? ⟨b, off + i * 5 + 3, none⟩ = some (.int .i64 x.b) ∧ b < W.heap.size) := lh fun W hW => ⟨(hW.cell hb).trans m1, (hW.cell hb).trans m2, (hW.cell hb).trans m3, Nat.lt_of_lt_of_le hb hW.size⟩;have hzr := HB.out.size;clear hh hx hrh hsh m1 m2 m3 m4 hsl
    go_wp2_with fail
    refine q4l _ _ _ ?_;intro w7 hb7;have Hb7 := lh hb7;generalize fieldsOf x.op = fs at *;have hz7 := hb7.size;clear m0 hb7 f2;obtain ⟨W8, hW8⟩ : ∃ W8, W8 = w7.alloc (Obj.cells #[] 3) := ⟨_, rfl⟩;have Hb8 : Hid (Below wr.heap.size wr W8) := lh (by subst hW8; exact Hb7.out.alloc hz7 _);have HO8 : Hid (W8.ownsRow w7.heap.size 3 1 (.slice (some ⟨w7.heap.size, 0, none⟩) 0 0) ([] : List Int).length (([] : List Int).flatMap qh)) := lh (by subst hW8; exact qjh w7);have HW8 := lh hW8.symm;have HB7 : Hid (w7.heap.size ≤ W8.heap.size ∧ wr.heap.size ≤ w7.heap.size) := lh ⟨by subst hW8; simp, hz7⟩;obtain ⟨B7, hB7⟩ := nmm (w7.heap.size);rw [<- hB7] at HO8 HB7;have HB7e := lh hB7;clear hW8 hz7 hB7 Hb7
    go_upto_region 12 with fail
    rw [HW8.out, <- HB7e.out];obtain ⟨R0, hR0⟩ : ∃ l : List Int, l = [] := ⟨_, rfl⟩;obtain ⟨R1, hR1⟩ : ∃ l, l = R0 ++ (if sh.d = true then [x.dst] else []) := ⟨_, rfl⟩;obtain ⟨R2, hR2⟩ : ∃ l, l = R1 ++ (if sh.a = true then [x.a] else []) := ⟨_, rfl⟩;obtain ⟨R3, hR3⟩ : ∃ l, l = R2 ++ (if sh.b = true then [x.b] else []) := ⟨_, rfl⟩;have hl0 : R0.length ≤ 0 := by rw [hR0]; exact Nat.le_refl _
    have hl1 : R1.length ≤ 1 := by rw [hR1, List.length_append]; split <;> simp <;> omega
    have hl2 : R2.length ≤ 2 := by rw [hR2, List.length_append]; split <;> simp <;> omega
    have hl3 : R3.length ≤ 3 := by rw [hR3, List.length_append]; split <;> simp <;> omega
    have Hrr : Hid (∀ r ∈ R3, RegH m r) := lh (by rw [hR3, hR2, hR1, hR0]; exact Hrh.out);obtain ⟨rA, rc, n0, hn0, hrA⟩ : ∃ (rA : Option Addr) (rc n0 : Nat), n0 = R0.length ∧ Value.slice (some ⟨B7, 0, none⟩) 0 0 = .slice rA n0 rc := ⟨_, _, _, (by rw [hR0]; rfl), rfl⟩;rw [<- hR0, hrA] at HO8;rw [hrA];rw [hn0] at HO8 ⊢;obtain ⟨HR1, HR2, HR3⟩ := lh3 hR1 hR2 hR3;have hy8 := HB7.out.1;have hz8 := Hb8.out.size;clear hR0 hR1 hR2 hR3 hrA hn0 HW8 HB7e Hrh
    go_wp2_with fail
    refine q0q _ 100 (by decide) (by decide) (by omega) _ _ ?_;rw [f3]
    go_upto_if 46 with fail
    go_cut [12] (fun s12 wx => Hid (wx.ownsRow B7 3 1 s12 R1.length (R1.flatMap qh)) ∧ Hid (Below wr.heap.size wr wx) ∧ B7 ≤ wx.heap.size)
    case first =>
     cases hd : sh.d with
     | false =>
       have HOe : Hid (W8.ownsRow B7 3 1 (.slice rA R0.length rc) R1.length (R1.flatMap qh)) := lh (by
        have e : R1 = R0 := by rw [HR1.out, hd]; simp
        rw [e];exact HO8.out)
       go_wp2;go_meet;exact ⟨HOe, Hb8, hy8⟩
     | true =>
       have He : Hid (R1 = R0 ++ [x.dst]) := lh (by rw [HR1.out, hd]; simp);obtain ⟨q1, q2, q3, lb⟩ := Hm1.out W8 Hb8.out
       go_wp2_with (at_builtin; refine wpList_append_own _ rfl _ _ 26 rfl B7 3 i9 _ 1 8 Tryz.underlying26 hi9 hy0 hy1 hy2 rfl (by decide) (.slice rA R0.length rc) R0.length (R0.flatMap qh) rfl (HO8.out.alloc _) ⟨W8.heap.size, 0, none⟩ 1 1 [.int .i64 x.dst] rfl rfl ?_ ?_ ?_ ?_ ?_ ?_)
       ·exact World.news_of_block (cs := #[.int .i64 x.dst]) (t := 3) (fr := (0, 0)) (heap_alloc_new W8 _)
       ·simp [Value.oneCell']
       ·unfold maxLen; omega
       ·omega
       ·simp; omega
       ·intro v' w9 hown9 hgrow9 _;have HB9 := lh ((Hb8.out.alloc Hb8.out.size (.cells #[.int .i64 x.dst] 3)).grown hgrow9 (by simp; omega) (fun j hj => by have h1 := (HO8.out.lt j hj).1; have := HB7.out.2; omega))
        have HO9 : Hid (w9.ownsRow B7 3 1 v' R1.length (R1.flatMap qh)) := lh (by
         rw [He.out, List.length_append, List.flatMap_append];exact hown9)
        have hy99 : B7 ≤ w9.heap.size := Nat.le_trans (by first | omega | (simp; omega)) hgrow9.size;clear hown9 hgrow9 q1 q2 q3 lb;go_wp2;go_meet;exact ⟨HO9, HB9, hy99⟩
    case rest =>
    obtain ⟨HO9, Hb9, hy9⟩ := hcut;rename World => W9;obtain ⟨rA, rc, hv9⟩ := qj HO9.out;subst hv9;have hzW9 : wr.heap.size ≤ W9.heap.size := Hb9.out.size
    go_wp2_with fail
    refine q0q _ 97 (by decide) (by decide) (by omega) _ _ ?_;rw [f4]
    go_upto_if 56 with fail
    go_cut [12] (fun s12 wx => Hid (wx.ownsRow B7 3 1 s12 R2.length (R2.flatMap qh)) ∧ Hid (Below wr.heap.size wr wx) ∧ B7 ≤ wx.heap.size)
    case first =>
     cases hd : sh.a with
     | false =>
       have HOe : Hid (W9.ownsRow B7 3 1 (.slice rA R1.length rc) R2.length (R2.flatMap qh)) := lh (by
        have e : R2 = R1 := by rw [HR2.out, hd]; simp
        rw [e];exact HO9.out)
       go_wp2;go_meet;exact ⟨HOe, Hb9, hy9⟩
     | true =>
       have He : Hid (R2 = R1 ++ [x.a]) := lh (by rw [HR2.out, hd]; simp);obtain ⟨q1, q2, q3, lb⟩ := Hm1.out W9 Hb9.out
       go_wp2_with (at_builtin; refine wpList_append_own _ rfl _ _ 26 rfl B7 3 i9 _ 1 8 Tryz.underlying26 hi9 hy0 hy1 hy2 rfl (by decide) (.slice rA R1.length rc) R1.length (R1.flatMap qh) rfl (HO9.out.alloc _) ⟨W9.heap.size, 0, none⟩ 1 1 [.int .i64 x.a] rfl rfl ?_ ?_ ?_ ?_ ?_ ?_)
       ·exact World.news_of_block (cs := #[.int .i64 x.a]) (t := 3) (fr := (0, 0)) (heap_alloc_new W9 _)
       ·simp [Value.oneCell']
       ·unfold maxLen; omega
       ·omega
       ·simp; omega
       ·intro v' w9 hown9 hgrow9 _;have HB9 := lh ((Hb9.out.alloc Hb9.out.size (.cells #[.int .i64 x.a] 3)).grown hgrow9 (by simp; omega) (fun j hj => by have h1 := (HO9.out.lt j hj).1; have := HB7.out.2; omega))
        have HO9 : Hid (w9.ownsRow B7 3 1 v' R2.length (R2.flatMap qh)) := lh (by
         rw [He.out, List.length_append, List.flatMap_append];exact hown9)
        have hy99 : B7 ≤ w9.heap.size := Nat.le_trans (by first | omega | (simp; omega)) hgrow9.size;clear hown9 hgrow9 q1 q2 q3 lb;go_wp2;go_meet;exact ⟨HO9, HB9, hy99⟩
    case rest =>
    obtain ⟨HO10, Hb10, hy10⟩ := hcut;rename World => W10;obtain ⟨rA, rc, hv10⟩ := qj HO10.out;subst hv10;have hzW10 : wr.heap.size ≤ W10.heap.size := Hb10.out.size
    go_wp2_with fail
    refine q0q _ 98 (by decide) (by decide) (by omega) _ _ ?_;rw [f5]
    go_upto_if 66 with fail
    go_cut [12] (fun s12 wx => Hid (wx.ownsRow B7 3 1 s12 R3.length (R3.flatMap qh)) ∧ Hid (Below wr.heap.size wr wx) ∧ B7 ≤ wx.heap.size)
    case first =>
     cases hd : sh.b with
     | false =>
       have HOe : Hid (W10.ownsRow B7 3 1 (.slice rA R2.length rc) R3.length (R3.flatMap qh)) := lh (by
        have e : R3 = R2 := by rw [HR3.out, hd]; simp
        rw [e];exact HO10.out)
       go_wp2;go_meet;exact ⟨HOe, Hb10, hy10⟩
     | true =>
       have He : Hid (R3 = R2 ++ [x.b]) := lh (by rw [HR3.out, hd]; simp);obtain ⟨q1, q2, q3, lb⟩ := Hm1.out W10 Hb10.out
       go_wp2_with (at_builtin; refine wpList_append_own _ rfl _ _ 26 rfl B7 3 i9 _ 1 8 Tryz.underlying26 hi9 hy0 hy1 hy2 rfl (by decide) (.slice rA R2.length rc) R2.length (R2.flatMap qh) rfl (HO10.out.alloc _) ⟨W10.heap.size, 0, none⟩ 1 1 [.int .i64 x.b] rfl rfl ?_ ?_ ?_ ?_ ?_ ?_)
       ·exact World.news_of_block (cs := #[.int .i64 x.b]) (t := 3) (fr := (0, 0)) (heap_alloc_new W10 _)
       ·simp [Value.oneCell']
       ·unfold maxLen; omega
       ·omega
       ·simp; omega
       ·intro v' w9 hown9 hgrow9 _;have HB9 := lh ((Hb10.out.alloc Hb10.out.size (.cells #[.int .i64 x.b] 3)).grown hgrow9 (by simp; omega) (fun j hj => by have h1 := (HO10.out.lt j hj).1; have := HB7.out.2; omega))
        have HO9 : Hid (w9.ownsRow B7 3 1 v' R3.length (R3.flatMap qh)) := lh (by
         rw [He.out, List.length_append, List.flatMap_append];exact hown9)
        have hy99 : B7 ≤ w9.heap.size := Nat.le_trans (by first | omega | (simp; omega)) hgrow9.size;clear hown9 hgrow9 q1 q2 q3 lb;go_wp2;go_meet;exact ⟨HO9, HB9, hy99⟩
    case rest =>
    obtain ⟨HO11, Hb11, hy11⟩ := hcut;rename World => W11;obtain ⟨rA, rc, hv11⟩ := qj HO11.out;subst hv11;have hzW11 : wr.heap.size ≤ W11.heap.size := Hb11.out.size;have hsl11 := q4n HO11.out (Nat.le_refl W11.heap.size);have HS11 := lh hsl11;have HB11 := lh (HB.out.trans (Hb11.out.mono hzr));clear hsl11 HO8 HO9 HO10 Hb8 Hb9 Hb10 HR1 HR2 HR3 f1 f3 f4 f5 Hm1;go_wp2
    go_loopg [13] R3.length (fun gh s13 wq => ∃ q : Nat, q ≤ R3.length ∧ gh = R3.length - q ∧ s13 = .int .i64 (q : Int) ∧ wq = W11)
    case atStart => exact ⟨0, Nat.zero_le _, rfl, rfl, rfl⟩
    case round =>
     obtain ⟨q, hq, rfl, rfl, hwq⟩ := hrel;subst hwq;have q0 := nnn q
     by_cases hlq : q < R3.length
     ·have q1 : (q : Int) < (R3.length : Int) := Int.ofNat_lt.2 hlq;obtain ⟨b2, o2, hA2, hb2, hc2⟩ := HS11.out.int_at hlq;subst hA2
      have hmr : R3.getD q 0 ∈ R3 := by
       rw [List.getD_eq_getElem?_getD, List.getElem?_eq_getElem hlq];exact List.getElem_mem hlq
      obtain ⟨r, hr⟩ := nmm (R3.getD q 0);rw [<- hr] at hc2 hmr;obtain ⟨_, _, hgv⟩ := Hrr.out r hmr;clear hr hmr
      by_cases h6 : 6 ≤ r
      ·by_cases h14 : r < 14
       ·have Hgv := lh (hgv h6 h14);clear hgv
        go_wp2_with fail
        refine qbc m ⟨hm2, hm14⟩ r _ _ ?_;rw [Hgv.out];go_wp2
        go_roundg (R3.length - (q + 1))
        case measure => omega
        case rel => exact ⟨q + 1, hlq, rfl, by go_num, rfl⟩
       ·clear hgv;go_wp2
        go_roundg (R3.length - (q + 1))
        case measure => omega
        case rel => exact ⟨q + 1, hlq, rfl, by go_num, rfl⟩
      ·clear hgv;go_wp2
       go_roundg (R3.length - (q + 1))
       case measure => omega
       case rel => exact ⟨q + 1, hlq, rfl, by go_num, rfl⟩
     ·obtain rfl : q = R3.length := by omega
      have q1 : ¬ (R3.length : Int) < (R3.length : Int) := by omega
      go_wp2
      go_roundg (xs.length - (i + 1))
      case measure => omega
      case rel => exact ⟨i + 1, hlt, rfl, by go_num, HB11⟩
   ·obtain rfl : i = xs.length := by omega
    have i1 : ¬ (xs.length : Int) < (xs.length : Int) := by omega
    go_wp2_with fail
    refine q6x _ xs _ hsl _ (fun w9 hb9 => ?_);rw [Hmf.out];have HX9 : Hid (∀ X, Below w9.heap.size w9 X -> R (.returned (.bool true)) X) := lh fun X hX => HX5.out _ (HB.out.trans ((hb9.trans (hX.mono hb9.size)).mono HB.out.size));clear hb9 hsl;have hfd : ∀ W, (Instr.field 30 (.agg #[.int .i64 0, .int .i64 0]) 0).run Tryz.prog W = .ok (.int .i64 0) W := fun _ => by kernel_rfl
    go_wp2;exact HX9.out _ (by exact bl0)
end Go.Proofs.YtdanebboiekieaaGreatDoor
