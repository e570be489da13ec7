/- The walks, part 9. -/
import Derived.Test.YtdanebboiekieaaGreatDoorP08
set_option linter.unusedSimpArgs false
set_option linter.unusedVariables false
set_option maxRecDepth 100000
set_option maxHeartbeats 16000000
namespace Go.Proofs.YtdanebboiekieaaGreatDoor
open Go.RowKit
theorem q9a {l : List Global} {k : Nat} (sum : Int) (h : k < l.length) : q0n l (l.length - k) k sum =
 if q1b l[k].name = false then (12, (k : Int))
 else if inN ((l.take k).map (·.name)) l[k].name = true then (7, (k : Int))
 else if l[k].size < 1 ∨ 200 < l[k].size then (3, (k : Int))
 else if l[k].size < l[k].init.length then (9, (k : Int))
 else if 200 < sum + l[k].size then (10, (k : Int))
 else q0n l (l.length - (k + 1)) (k + 1) (sum + l[k].size) := by
 have e : inN ((l.take k).map (·.name)) l[k].name = (l.take k).any fun o => decide (o.name = l[k].name) := by
  unfold inN;rw [List.any_map];rfl
 rw [show l.length - k = (l.length - (k + 1)) + 1 from by omega, q0n, List.getElem?_eq_getElem h, e]
def nmsF (u : Unt) (i : Nat) : List ByteArray := u.globals.map (·.name) ++ (u.funcs.take i).map (·.name)
theorem qjb {u : Unt} {i : Nat} (h : i < u.funcs.length) : nmsF u (i + 1) = nmsF u i ++ [u.funcs[i].name] := by
 unfold nmsF;rw [List.take_succ_eq_append_getElem h, List.map_append, List.append_assoc];rfl
theorem qlu {u : Unt} {i : Nat} (h : i ≤ u.funcs.length) : (nmsF u i).length = u.globals.length + i := by
 unfold nmsF;rw [List.length_append, List.length_map, List.length_map, List.length_take];omega
theorem q8k {u : Unt} {i : Nat} (h : i < u.funcs.length) : (q2f u)[i]? = some (headF (inN (nmsF u i)) u.funcs[i]) := by
 unfold q2f;rw [List.getElem?_mapIdx, List.getElem?_eq_getElem h];rfl
theorem q9n {u : Unt} {i : Nat} (h : i < u.funcs.length) : (q1q u)[i]? = some (bodyF u u.funcs[i]) := by
 unfold q1q;rw [List.getElem?_map, List.getElem?_eq_getElem h];rfl
theorem qgn (u : Unt) : (q2f u).length = u.funcs.length := by simp [q2f]
theorem qdn (u : Unt) : (q1q u).length = u.funcs.length := by simp [q1q]
theorem qgm {n : ByteArray -> Bool} {f : UFun} (h : headF n f = 0) : (0 ≤ f.regs ∧ f.regs ≤ 100) ∧ f.blocks.length ≤ 40 := by
 unfold headF at h
 split at h
 ·simp at h
 split at h
 ·simp at h
 split at h
 ·simp at h
 split at h
 ·simp at h
 omega
theorem q40 {u : Unt} (h : ¬ (10 < u.globals.length ∨ 10 < u.funcs.length)) {f : Int × Int} (hg : q0n u.globals u.globals.length 0 0 = f) (hf : f ≠ (0, 0)) : qo u = f := by
 unfold qo;rw [if_neg h, if_pos (by rw [hg]; exact hf), hg]
theorem qgg {u : Unt} (h : ¬ (10 < u.globals.length ∨ 10 < u.funcs.length)) (hg : q0n u.globals u.globals.length 0 0 = (0, 0)) {i : Nat} {e : Int} (he : (q2f u)[i]? = some e) (hne : e ≠ 0) (hz : fst0 ((q2f u).take i) = 0) : qo u = (e, (i : Int)) := by
 unfold qo;rw [if_neg h, if_neg (fun hn => hn hg), if_pos (by rw [q5q he hne hz]; exact hne)];exact qf7 he hne hz
theorem qgf {u : Unt} (h : ¬ (10 < u.globals.length ∨ 10 < u.funcs.length)) (hg : q0n u.globals u.globals.length 0 0 = (0, 0)) (hh : fst0 (q2f u) = 0) {i : Nat} {e : Int} (he : (q1q u)[i]? = some e) (hne : e ≠ 0) (hz : fst0 ((q1q u).take i) = 0) : qo u = (e, (i : Int)) := by
 unfold qo;rw [if_neg h, if_neg (fun hn => hn hg), if_neg (fun hn => hn hh), if_pos (by rw [q5q he hne hz]; exact hne)];exact qf7 he hne hz
theorem qi6 {u : Unt} (h : ¬ (10 < u.globals.length ∨ 10 < u.funcs.length)) (hg : q0n u.globals u.globals.length 0 0 = (0, 0)) (hh : fst0 (q2f u) = 0) (hb : fst0 (q1q u) = 0) : qo u = match q4e u.funcs with
 | none => (6, 0)
 | some i => match u.funcs[i]? with
   | none => (6, 0)
   | some f => if 0 < f.params then (5, (i : Int)) else (0, 0) := by
 unfold qo;rw [if_neg h, if_neg (fun hn => hn hg), if_neg (fun hn => hn hh), if_neg (fun hn => hn hb)];rfl
theorem q7x (u : Unt) (hu : UntI u) (gA fA : Option Addr) (gn gc fn fc : Nat) (w : World) (hW : Ways w) (hg : rpGlobal.SL w w.heap.size u.globals (.slice gA gn gc)) (hf : rpFun.SL w w.heap.size u.funcs (.slice fA fn fc)) (R : Ending -> World -> Prop)
 (hR : ∀ w', Below w.heap.size w w' -> R (.returned (.agg #[.int .i64 (qo u).1, .int .i64 (qo u).2])) w') : Calls Tryz.prog 93 #[.agg #[.slice gA gn gc, .slice fA fn fc]] w R := by
 have e1 := hg.len;have e2 := hf.len;subst e1 e2;have hgm := hg.max;have hfm := hf.max;unfold maxLen at hgm hfm;have hw0 := hW.1;obtain ⟨HR, Hg, Hf, HW, HU⟩ := lh5 hR hg hf hW hu;obtain ⟨W2, hW2⟩ := nmm ((w.alloc (Obj.cells #[.slice gA u.globals.length gc, .slice fA u.funcs.length fc] 25)).alloc (Obj.cells #[.int .i64 0, .int .i64 0] 30));have HU2 : Hid (W2.heap[w.heap.size]? = some (.cells #[.slice gA u.globals.length gc, .slice fA u.funcs.length fc] 25 (0, 0))) := lh (by subst hW2; exact qf (heap_alloc_new _ _) _)
 have HF2 : Hid (W2.heap[w.heap.size + 1]? = some (.cells #[.int .i64 0, .int .i64 0] 30 (0, 0))) := lh (by
  subst hW2;have := heap_alloc_new (w.alloc (Obj.cells #[.slice gA u.globals.length gc, .slice fA u.funcs.length fc] 25)) (Obj.cells #[.int .i64 0, .int .i64 0] 30);simpa using this)
 have Hb2 : Hid (Below w.heap.size w W2) := lh (by subst hW2; exact bl0);have hs2 : W2.heap.size = w.heap.size + 2 := by subst hW2; simp
 have HW2 := lh hW2.symm;have lU := qa HU2.out;obtain ⟨u0, u1⟩ := qi HU2.out;clear hR hg hf hW hW2 hu hs2
 by_cases hm0 : 10 < u.globals.length
 ·have hi0 : (10 : Int) < (u.globals.length : Int) := by omega
  have heq : Hid (qo u = (2, 0)) := lh (by unfold qo; rw [if_pos (.inl hm0)]);clear hm0
  go_enter Tryz.func93, Tryz.ntmps93
  go_upto_region 1 with fail
  rw [HW2.out];obtain ⟨wr, hwr⟩ := nmm (W2);have Hbr : Hid (Below W2.heap.size W2 wr) := lh (by subst hwr; exact Below.refl _ _);have hzr := Hbr.out.size;rw [<- hwr];rw [<- hwr] at u0 u1 lU;clear hwr
  go_wp2_with fail
  refine q07 _ _ _ _ (fun w9 hb9 => ?_);have hbx : Below W2.heap.size W2 w9 := Hbr.out.trans (((by exact bl0 : Below wr.heap.size wr _).trans (hb9.mono (by first | exact Nat.le_refl _ | (simp; done) | (simp; omega)))).mono hzr);have hF9 := (hbx.block _ (qa HF2.out)).trans HF2.out;have Hfin := lh (HR.out _ ((Hb2.out.trans (hbx.mono Hb2.out.size)).setCell (p := ⟨w.heap.size + 1, 0, none⟩) (Nat.le_succ _) (.int .i64 (2)) |>.setCell (p := ⟨w.heap.size + 1, 1, none⟩) (Nat.le_succ _) (.int .i64 (0))));rw [show qo u = (2, 0) from heq.out] at Hfin;obtain ⟨k0, k1⟩ := qi hF9;have f0 := fzz hF9 0;have f1 := fzz hF9 1;have l9 := qa hF9;have HF9 := lh hF9;clear hb9 hbx hF9;go_wp2;refine bodyPost_ret (v := (.agg #[.int .i64 ((2, 0)).1, .int .i64 ((2, 0)).2])) (q0m (by rfl) (by rfl) (qi (T := 30) (by exact (blkp HF9.out)))) rfl ?_;exact Hfin.out
 have hi0 : ¬ (10 : Int) < (u.globals.length : Int) := by omega
 by_cases hm1 : 10 < u.funcs.length
 ·have hi1 : (10 : Int) < (u.funcs.length : Int) := by omega
  have heq : Hid (qo u = (2, 0)) := lh (by unfold qo; rw [if_pos (.inr hm1)]);clear hm1
  go_enter Tryz.func93, Tryz.ntmps93
  go_upto_region 1 with fail
  rw [HW2.out];obtain ⟨wr, hwr⟩ := nmm (W2);have Hbr : Hid (Below W2.heap.size W2 wr) := lh (by subst hwr; exact Below.refl _ _);have hzr := Hbr.out.size;rw [<- hwr];rw [<- hwr] at u0 u1 lU;clear hwr
  go_wp2_with fail
  refine q07 _ _ _ _ (fun w9 hb9 => ?_);have hbx : Below W2.heap.size W2 w9 := Hbr.out.trans (((by exact bl0 : Below wr.heap.size wr _).trans (hb9.mono (by first | exact Nat.le_refl _ | (simp; done) | (simp; omega)))).mono hzr);have hF9 := (hbx.block _ (qa HF2.out)).trans HF2.out;have Hfin := lh (HR.out _ ((Hb2.out.trans (hbx.mono Hb2.out.size)).setCell (p := ⟨w.heap.size + 1, 0, none⟩) (Nat.le_succ _) (.int .i64 (2)) |>.setCell (p := ⟨w.heap.size + 1, 1, none⟩) (Nat.le_succ _) (.int .i64 (0))));rw [show qo u = (2, 0) from heq.out] at Hfin;obtain ⟨k0, k1⟩ := qi hF9;have f0 := fzz hF9 0;have f1 := fzz hF9 1;have l9 := qa hF9;have HF9 := lh hF9;clear hb9 hbx hF9;go_wp2;refine bodyPost_ret (v := (.agg #[.int .i64 ((2, 0)).1, .int .i64 ((2, 0)).2])) (q0m (by rfl) (by rfl) (qi (T := 30) (by exact (blkp HF9.out)))) rfl ?_;exact Hfin.out
 have hi1 : ¬ (10 : Int) < (u.funcs.length : Int) := by omega
 have hmany : ¬ (10 < u.globals.length ∨ 10 < u.funcs.length) := by omega
 have Hmany := lh hmany;clear hmany
 go_enter Tryz.func93, Tryz.ntmps93
 go_upto_region 1 with fail
 rw [HW2.out];go_wp2;clear u0 u1
 go_loopg [3, 4, 31] u.globals.length (fun gh s3 s4 s31 wr => ∃ (i : Nat) (sum : Int), i ≤ u.globals.length ∧ gh = u.globals.length - i ∧ s31 = .int .i64 (i : Int) ∧ s4 = .int .i64 sum ∧ 0 ≤ sum ∧ sum ≤ 200 ∧ Hid (q0n u.globals (u.globals.length - i) i sum = q0n u.globals u.globals.length 0 0) ∧ Hid (wr.ownsRow W2.heap.size 9 1 s3 ((u.globals.take i).map (·.name)).length (((u.globals.take i).map (·.name)).flatMap q0w)) ∧ Hid (Below W2.heap.size W2 wr))
 case atStart => exact ⟨0, 0, Nat.zero_le _, rfl, rfl, rfl, by omega, by omega, lh rfl, lh (World.ownsRow_nil _ _ _ _), lh (Below.refl _ _)⟩
 case round =>
  obtain ⟨i, sum, hi, rfl, rfl, rfl, hs0, hs1, Ht, Hn, Hbr⟩ := hrel;have hzr := Hbr.out.size
  by_cases hlt : i < u.globals.length
  ·obtain ⟨b, off, g, v1, rfl, hb, e, h1, q0, q1, q2⟩ := Hg.out.global_at hlt;have eg : g = u.globals[i] := by rw [List.getElem?_eq_getElem hlt] at e; exact (Option.some.inj e).symm
   obtain ⟨A1, c1, rfl, hm1, _, _⟩ := h1.cases_;have Hbw := lh (Hb2.out.trans (Hbr.out.mono Hb2.out.size));have i1 := nnn i;have i2 : (i : Int) < (u.globals.length : Int) := by omega
   have lb : b < wr.heap.size := by have := Hbw.out.size; omega
   have p0 := (Hbw.out.cell (p := ⟨b, off + i * 3, none⟩) hb).trans q0;have p1 := (Hbw.out.cell (p := ⟨b, off + i * 3 + 1, none⟩) hb).trans q1;have p2 := (Hbw.out.cell (p := ⟨b, off + i * 3 + 2, none⟩) hb).trans q2;have Hst : Hid (q0n u.globals u.globals.length 0 0 = _) := lh (Ht.out.symm.trans (q9a sum hlt));have Hnext : Hid ((u.globals.take (i + 1)).map (·.name) = (u.globals.take i).map (·.name) ++ [u.globals[i].name]) := lh (by rw [List.take_succ_eq_append_getElem hlt, List.map_append]; rfl);rw [<- eg] at Hst Hnext;have hnl : ((u.globals.take i).map (·.name)).length ≤ 100 := by rw [List.length_map, List.length_take]; omega
   generalize (u.globals.take i).map (·.name) = nms at *;have hgi := (HU.out.globals g (by rw [eg]; exact List.getElem_mem hlt)).2.1;obtain ⟨A3, c3, hs3⟩ := qj Hn.out;subst hs3;have Hns := lh (qbf Hn.out (Nat.le_refl _));have Hnl := lh hnl;have hnlm : nms.length ≤ 100 := hnl;have hab : wr.heap.size ≤ (wr.alloc (Obj.cells #[.string g.name, .int .i64 g.size, .slice A1 g.init.length c1] 167)).heap.size := by simp
   obtain ⟨W5, hW5⟩ := nmm (wr.alloc (Obj.cells #[.string g.name, .int .i64 g.size, .slice A1 g.init.length c1] 167));have Hb5 : Hid (Below wr.heap.size wr W5) := lh (by subst hW5; exact bl0)
   obtain ⟨m0, m1, m2⟩ : W5.cell? ⟨wr.heap.size, 0, none⟩ = some (.string g.name) ∧ W5.cell? ⟨wr.heap.size, 1, none⟩ = some (.int .i64 g.size) ∧ W5.cell? ⟨wr.heap.size, 2, none⟩ = some (.slice A1 g.init.length c1) := by
    subst hW5;refine ⟨?_, ?_, ?_⟩ <;> simp
   have lW5 : wr.heap.size < W5.heap.size := by subst hW5; simp
   have HW5 := lh hW5.symm;have Hbr5 := lh (Hbr.out.trans (Hb5.out.mono hzr));have hz5 := Hbr5.out.size;have Hns5 := lh (Hns.out.up Hb5.out Hb5.out.size);have Hn5 : Hid (W5.ownsRow W2.heap.size 9 1 (.slice A3 nms.length c3) nms.length (nms.flatMap q0w)) := lh (by subst hW5; exact Hn.out.alloc _);clear q0 q1 q2 h1 eg e Hbr Hns hW5 hab hnl
   go_upto_region 8 with fail
   rw [HW5.out];have hbase5 : W2.heap.size ≤ W5.heap.size := hz5;obtain ⟨gw, hgw⟩ := nmm (wr.heap.size);rw [<- hgw];rw [<- hgw] at m0 m1 m2 lW5;have Hne : Hid (∀ j, (Value.slice A3 nms.length c3).ownBlock = some j -> j < gw) := lh (fun j e => by rw [hgw]; exact (Hn.out.lt j e).2);clear hgw p0 p1 p2 lb Hb5 Hbw hzr HW5 Hn
   by_cases hgn : q1b g.name = false
   ·have heq : Hid (qo u = (12, (i : Int))) := lh (q40 Hmany.out (Hst.out.trans (if_pos hgn)) (by simp))
    go_wp2_with fail
    refine q0p _ _ _ ?_;rw [hgn]
    go_wp2_with fail
    refine q07 _ _ _ _ (fun w9 hb9 => ?_);have hbx : Below W2.heap.size W2 w9 := Hbr5.out.trans (((by exact bl0 : Below W5.heap.size W5 _).trans (hb9.mono (by first | exact Nat.le_refl _ | (simp; done) | (simp; omega)))).mono hz5);have hF9 := (hbx.block _ (qa HF2.out)).trans HF2.out;have Hfin := lh (HR.out _ ((Hb2.out.trans (hbx.mono Hb2.out.size)).setCell (p := ⟨w.heap.size + 1, 0, none⟩) (Nat.le_succ _) (.int .i64 (12)) |>.setCell (p := ⟨w.heap.size + 1, 1, none⟩) (Nat.le_succ _) (.int .i64 ((i : Int)))));rw [show qo u = (12, (i : Int)) from heq.out] at Hfin;obtain ⟨k0, k1⟩ := qi hF9;have f0 := fzz hF9 0;have f1 := fzz hF9 1;have l9 := qa hF9;have HF9 := lh hF9;clear hb9 hbx hF9;go_wp2;refine bodyPost_ret (v := (.agg #[.int .i64 ((12, (i : Int))).1, .int .i64 ((12, (i : Int))).2])) (q0m (by rfl) (by rfl) (qi (T := 30) (by exact (blkp HF9.out)))) rfl ?_;exact Hfin.out
   have Hst2 := lh (Hst.out.trans (if_neg hgn));have hgn : q1b g.name = true := by simpa using hgn
   by_cases hhad : inN nms g.name = true
   ·have heq : Hid (qo u = (7, (i : Int))) := lh (q40 Hmany.out (Hst2.out.trans (if_pos hhad)) (by simp))
    go_wp2_with fail
    refine q0p _ _ _ ?_;rw [hgn]
    go_wp2_with fail
    refine q08 nms _ _ _ Hns5.out _ ?_;rw [hhad]
    go_wp2_with fail
    refine q07 _ _ _ _ (fun w9 hb9 => ?_);have hbx : Below W2.heap.size W2 w9 := Hbr5.out.trans (((by exact bl0 : Below W5.heap.size W5 _).trans (hb9.mono (by first | exact Nat.le_refl _ | (simp; done) | (simp; omega)))).mono hz5);have hF9 := (hbx.block _ (qa HF2.out)).trans HF2.out;have Hfin := lh (HR.out _ ((Hb2.out.trans (hbx.mono Hb2.out.size)).setCell (p := ⟨w.heap.size + 1, 0, none⟩) (Nat.le_succ _) (.int .i64 (7)) |>.setCell (p := ⟨w.heap.size + 1, 1, none⟩) (Nat.le_succ _) (.int .i64 ((i : Int)))));rw [show qo u = (7, (i : Int)) from heq.out] at Hfin;obtain ⟨k0, k1⟩ := qi hF9;have f0 := fzz hF9 0;have f1 := fzz hF9 1;have l9 := qa hF9;have HF9 := lh hF9;clear hb9 hbx hF9;go_wp2;refine bodyPost_ret (v := (.agg #[.int .i64 ((7, (i : Int))).1, .int .i64 ((7, (i : Int))).2])) (q0m (by rfl) (by rfl) (qi (T := 30) (by exact (blkp HF9.out)))) rfl ?_;exact Hfin.out
   have Hst3 := lh (Hst2.out.trans (if_neg hhad));have hhad : inN nms g.name = false := by simpa using hhad
   by_cases hsz : g.size < 1 ∨ 200 < g.size
   ·have heq : Hid (qo u = (3, (i : Int))) := lh (q40 Hmany.out (Hst3.out.trans (if_pos hsz)) (by simp));have hd : decide (1 ≤ g.size ∧ g.size ≤ 200) = false := decide_eq_false (by omega);clear hsz
    go_wp2_with fail
    refine q0p _ _ _ ?_;rw [hgn]
    go_wp2_with fail
    refine q08 nms _ _ _ Hns5.out _ ?_;rw [hhad]
    go_wp2_with fail
    refine qd _ _ _ _ _ ?_;rw [hd]
    go_wp2_with fail
    refine q07 _ _ _ _ (fun w9 hb9 => ?_);have hbx : Below W2.heap.size W2 w9 := Hbr5.out.trans (((by exact bl0 : Below W5.heap.size W5 _).trans (hb9.mono (by first | exact Nat.le_refl _ | (simp; done) | (simp; omega)))).mono hz5);have hF9 := (hbx.block _ (qa HF2.out)).trans HF2.out;have Hfin := lh (HR.out _ ((Hb2.out.trans (hbx.mono Hb2.out.size)).setCell (p := ⟨w.heap.size + 1, 0, none⟩) (Nat.le_succ _) (.int .i64 (3)) |>.setCell (p := ⟨w.heap.size + 1, 1, none⟩) (Nat.le_succ _) (.int .i64 ((i : Int)))));rw [show qo u = (3, (i : Int)) from heq.out] at Hfin;obtain ⟨k0, k1⟩ := qi hF9;have f0 := fzz hF9 0;have f1 := fzz hF9 1;have l9 := qa hF9;have HF9 := lh hF9;clear hb9 hbx hF9;go_wp2;refine bodyPost_ret (v := (.agg #[.int .i64 ((3, (i : Int))).1, .int .i64 ((3, (i : Int))).2])) (q0m (by rfl) (by rfl) (qi (T := 30) (by exact (blkp HF9.out)))) rfl ?_;exact Hfin.out
   have Hst4 := lh (Hst3.out.trans (if_neg hsz));have hd : decide (1 ≤ g.size ∧ g.size ≤ 200) = true := decide_eq_true (by omega);have hsz0 : 1 ≤ g.size := by omega
   have hsz1 : g.size ≤ 200 := by omega
   by_cases hin : g.size < (g.init.length : Int)
   ·have heq : Hid (qo u = (9, (i : Int))) := lh (q40 Hmany.out (Hst4.out.trans (if_pos hin)) (by simp))
    go_wp2_with fail
    refine q0p _ _ _ ?_;rw [hgn]
    go_wp2_with fail
    refine q08 nms _ _ _ Hns5.out _ ?_;rw [hhad]
    go_wp2_with fail
    refine qd _ _ _ _ _ ?_;rw [hd]
    go_wp2_with fail
    refine q07 _ _ _ _ (fun w9 hb9 => ?_);have hbx : Below W2.heap.size W2 w9 := Hbr5.out.trans (((by exact bl0 : Below W5.heap.size W5 _).trans (hb9.mono (by first | exact Nat.le_refl _ | (simp; done) | (simp; omega)))).mono hz5);have hF9 := (hbx.block _ (qa HF2.out)).trans HF2.out;have Hfin := lh (HR.out _ ((Hb2.out.trans (hbx.mono Hb2.out.size)).setCell (p := ⟨w.heap.size + 1, 0, none⟩) (Nat.le_succ _) (.int .i64 (9)) |>.setCell (p := ⟨w.heap.size + 1, 1, none⟩) (Nat.le_succ _) (.int .i64 ((i : Int)))));rw [show qo u = (9, (i : Int)) from heq.out] at Hfin;obtain ⟨k0, k1⟩ := qi hF9;have f0 := fzz hF9 0;have f1 := fzz hF9 1;have l9 := qa hF9;have HF9 := lh hF9;clear hb9 hbx hF9;go_wp2;refine bodyPost_ret (v := (.agg #[.int .i64 ((9, (i : Int))).1, .int .i64 ((9, (i : Int))).2])) (q0m (by rfl) (by rfl) (qi (T := 30) (by exact (blkp HF9.out)))) rfl ?_;exact Hfin.out
   have Hst5 := lh (Hst4.out.trans (if_neg hin))
   by_cases hsum : 200 < sum + g.size
   ·have heq : Hid (qo u = (10, (i : Int))) := lh (q40 Hmany.out (Hst5.out.trans (if_pos hsum)) (by simp))
    go_wp2_with fail
    refine q0p _ _ _ ?_;rw [hgn]
    go_wp2_with fail
    refine q08 nms _ _ _ Hns5.out _ ?_;rw [hhad]
    go_wp2_with fail
    refine qd _ _ _ _ _ ?_;rw [hd]
    go_wp2_with fail
    refine q07 _ _ _ _ (fun w9 hb9 => ?_);have hbx : Below W2.heap.size W2 w9 := Hbr5.out.trans (((by exact bl0 : Below W5.heap.size W5 _).trans (hb9.mono (by first | exact Nat.le_refl _ | (simp; done) | (simp; omega)))).mono hz5);have hF9 := (hbx.block _ (qa HF2.out)).trans HF2.out;have Hfin := lh (HR.out _ ((Hb2.out.trans (hbx.mono Hb2.out.size)).setCell (p := ⟨w.heap.size + 1, 0, none⟩) (Nat.le_succ _) (.int .i64 (10)) |>.setCell (p := ⟨w.heap.size + 1, 1, none⟩) (Nat.le_succ _) (.int .i64 ((i : Int)))));rw [show qo u = (10, (i : Int)) from heq.out] at Hfin;obtain ⟨k0, k1⟩ := qi hF9;have f0 := fzz hF9 0;have f1 := fzz hF9 1;have l9 := qa hF9;have HF9 := lh hF9;clear hb9 hbx hF9;go_wp2;refine bodyPost_ret (v := (.agg #[.int .i64 ((10, (i : Int))).1, .int .i64 ((10, (i : Int))).2])) (q0m (by rfl) (by rfl) (qi (T := 30) (by exact (blkp HF9.out)))) rfl ?_;exact Hfin.out
   have Hst6 := lh (Hst5.out.trans (if_neg hsum))
   go_wp2_with fail
   refine q0p _ _ _ ?_;rw [hgn]
   go_wp2_with fail
   refine q08 nms _ _ _ Hns5.out _ ?_;rw [hhad]
   go_wp2_with fail
   refine qd _ _ _ _ _ ?_;rw [hd]
   go_wp2_with (at_builtin; refine qhw rfl _ _ rfl (v := .slice A3 nms.length c3) rfl (Hn5.out.alloc _) W5.heap.size g.name rfl (heap_alloc_new _ _) Hnl.out (by simp; omega) ?_)
   intro v7 w7 hown7 hg7 hat7;have hown8 : w7.ownsRow W2.heap.size 9 1 v7 (nms ++ [g.name]).length ((nms ++ [g.name]).flatMap q0w) := by simpa using hown7
   have hlo := fun j (e : (Value.slice A3 nms.length c3).ownBlock = some j) => (Hn5.out.lt j e).1;have hb7 := (Hbr5.out.alloc hz5 (Obj.cells #[.string g.name] 9)).trans ((Grew.of_grown hg7).below (B := W2.heap.size) (fun j hj e => by have := hlo j e; omega) (by simp; omega));obtain ⟨Hown8, Hb7⟩ := lh2 hown8 hb7;have m7 : w7.cell? ⟨gw, 1, none⟩ = some (.int .i64 g.size) := hg7.cell (by rw [World.cell?_alloc_lt _ _ _ (show gw < W5.heap.size from lW5)]; exact m1) (fun e => Nat.lt_irrefl _ (Hne.out gw e.symm));have l7 : gw < w7.heap.size := by have := hg7.size; simp at this; omega
   clear hown7 hg7 hat7 hown8 hb7 hlo;go_wp2
   go_roundg (u.globals.length - (i + 1))
   case measure => omega
   case rel => exact ⟨i + 1, sum + g.size, by omega, rfl, by go_num, by go_num, by omega, by omega, lh Hst6.out.symm, by rw [Hnext.out]; exact Hown8, Hb7⟩
  ·obtain rfl : i = u.globals.length := by omega
   have hz0 : q0n u.globals u.globals.length 0 0 = (0, 0) := by
    have := Ht.out;rw [Nat.sub_self, q0n] at this;exact this.symm
   have Hz0 := lh hz0;have i2 : ¬ ((u.globals.length : Int) < (u.globals.length : Int)) := by omega
   have hl : ((u.globals.take u.globals.length).map (·.name)).length = u.globals.length := by simp
   rw [hl] at Hn;obtain ⟨A3, c3, hs3⟩ := qj Hn.out;subst hs3
   have Hn0 : Hid (wr.ownsRow W2.heap.size 9 1 (.slice A3 u.globals.length c3) (nmsF u 0).length ((nmsF u 0).flatMap q0w)) := lh (by
    rw [show nmsF u 0 = (u.globals.take u.globals.length).map (·.name) from by simp [nmsF], hl];exact Hn.out)
   clear hl;obtain ⟨u0, u1⟩ := qi ((Hbr.out.block _ (qa HU2.out)).trans HU2.out);have lU5 : w.heap.size < wr.heap.size := by omega
   clear Hn Ht hz0 hs0 hs1;go_wp2;clear u0 u1
   go_loopg [3, 82] u.funcs.length (fun gh s3 s82 wx => ∃ i : Nat, i ≤ u.funcs.length ∧ gh = u.funcs.length - i ∧ s82 = .int .i64 (i : Int) ∧ Hid (fst0 ((q2f u).take i) = 0) ∧ Hid (wx.ownsRow W2.heap.size 9 1 s3 (nmsF u i).length ((nmsF u i).flatMap q0w)) ∧ Hid (Below W2.heap.size W2 wx))
   case atStart => exact ⟨0, Nat.zero_le _, rfl, rfl, lh rfl, Hn0, Hbr⟩
   case round =>
    obtain ⟨i, hi, rfl, rfl, Hz, Hn, Hbx⟩ := hrel;clear Hn0 Hbr;have hzx := Hbx.out.size
    by_cases hlt : i < u.funcs.length
    ·obtain ⟨b, off, vb, rfl, hb, hvb, q0, q1, q2, q3⟩ := Hf.out.fun_at hlt;obtain ⟨bA, bc, rfl, _, _, hvb⟩ := hvb.cases_;have Hbw := lh (Hb2.out.trans (Hbx.out.mono Hb2.out.size));have i1 := nnn i;have i2 : (i : Int) < (u.funcs.length : Int) := by omega
     have lb : b < wr.heap.size := by have := Hbw.out.size; omega
     have p0 := (Hbw.out.cell (p := ⟨b, off + i * 4, none⟩) hb).trans q0;have p1 := (Hbw.out.cell (p := ⟨b, off + i * 4 + 1, none⟩) hb).trans q1;have p2 := (Hbw.out.cell (p := ⟨b, off + i * 4 + 2, none⟩) hb).trans q2;have p3 := (Hbw.out.cell (p := ⟨b, off + i * 4 + 3, none⟩) hb).trans q3;obtain ⟨u0, u1⟩ := qi ((Hbx.out.block _ (qa HU2.out)).trans HU2.out);have lU5 : w.heap.size < wr.heap.size := by have := qa HU2.out; omega
     have Hyes : Hid (headF (inN (nmsF u i)) u.funcs[i] = 0 -> fst0 ((q2f u).take (i + 1)) = 0) := lh fun h => q3e (q8k hlt) h Hz.out;have Hno : Hid (headF (inN (nmsF u i)) u.funcs[i] ≠ 0 -> qo u = (headF (inN (nmsF u i)) u.funcs[i], (i : Int))) := lh fun h => qgg Hmany.out Hz0.out (q8k hlt) h Hz.out;have Hnext := lh (qjb hlt);have hnl : (nmsF u i).length ≤ 100 := by rw [qlu (by omega)]; have := Hmany.out; omega
     have Hnl := lh hnl;generalize nmsF u i = nms at *;generalize u.funcs[i] = f at *;obtain ⟨A3, c3, hs3⟩ := qj Hn.out;subst hs3;obtain ⟨W5, hW5⟩ := nmm ((wr.alloc (Obj.cells #[.string f.name, .int .i64 f.params, .int .i64 f.regs, .slice bA f.blocks.length bc] 56)).alloc (Obj.cells #[.slice gA u.globals.length gc, .slice (some ⟨b, off, none⟩) u.funcs.length fc, .string f.name, .int .i64 f.params, .int .i64 f.regs, .slice bA f.blocks.length bc, .slice none 0 0] 171));have Hb5 : Hid (Below wr.heap.size wr W5) := lh (by subst hW5; exact bl0);have HX5 : Hid (W5.heap[wr.heap.size]? = some (.cells #[.string f.name, .int .i64 f.params, .int .i64 f.regs, .slice bA f.blocks.length bc] 56 (0, 0))) := lh (by subst hW5; exact qf (heap_alloc_new _ _) _)
     have HY5 : Hid (W5.heap[wr.heap.size + 1]? = some (.cells #[.slice gA u.globals.length gc, .slice (some ⟨b, off, none⟩) u.funcs.length fc, .string f.name, .int .i64 f.params, .int .i64 f.regs, .slice bA f.blocks.length bc, .slice none 0 0] 171 (0, 0))) := lh (by
      subst hW5;have := heap_alloc_new (wr.alloc (Obj.cells #[.string f.name, .int .i64 f.params, .int .i64 f.regs, .slice bA f.blocks.length bc] 56)) (Obj.cells #[.slice gA u.globals.length gc, .slice (some ⟨b, off, none⟩) u.funcs.length fc, .string f.name, .int .i64 f.params, .int .i64 f.regs, .slice bA f.blocks.length bc, .slice none 0 0] 171);simpa using this)
     have Hn5 : Hid (W5.ownsRow W2.heap.size 9 1 (.slice A3 nms.length c3) nms.length (nms.flatMap q0w)) := lh (by subst hW5; exact (Hn.out.alloc _).alloc _);have HW5 := lh hW5.symm;have Hbr5 := lh (Hbx.out.trans (Hb5.out.mono hzx));have hz5 := Hbr5.out.size;have Hns5 := lh (qbf Hn5.out (Nat.le_refl _));have Hbl5 := lh (hvb.up (Hbw.out.trans (Hb5.out.mono Hbw.out.size)) (by have := Hbw.out.size; have := Hb5.out.size; omega : w.heap.size ≤ W5.heap.size));obtain ⟨c0, c1, c2, c3', c4, c5, c6⟩ := qr HY5.out;have l5 := qa HY5.out;obtain ⟨gw, hgw⟩ := nmm (wr.heap.size);have Hne : Hid (∀ j, (Value.slice A3 nms.length c3).ownBlock = some j -> j < gw) := lh (fun j e => by rw [hgw]; exact (Hn.out.lt j e).2);clear q0 q1 q2 q3 hvb hnl Hn hW5
     go_upto_region 28 with fail
     rw [HW5.out];rw [<- hgw] at HX5 c0 c1 c2 c3' c4 c5 c6 l5 ⊢;clear p0 p1 p2 p3 lb Hb5 u0 u1 lU5 HY5 hgw HW5 Hbw
     go_wp2_with fail
     refine qgl f nms _ gA _ bA u.globals.length gc _ fc bc W5 Hns5.out Hbl5.out _ (fun w6 hb6 => ?_);have hX6 := (hb6.block _ (qa HX5.out)).trans HX5.out;have HX6 := lh hX6;have Hn6 : Hid (w6.ownsRow W2.heap.size 9 1 (.slice A3 nms.length c3) nms.length (nms.flatMap q0w)) := lh (q0d Hn5.out hb6);have Hbr6 := btt Hbr5 hb6 hz5;have hz6 := Hbr6.out.size;obtain ⟨x0, x1, x2, x3⟩ := q0j hX6;have lx := qa hX6;clear hb6 hX6 c0 c1 c2 c3' c4 c5 c6 l5 Hn5 Hns5 Hbl5 Hbr5 HX5;generalize headF (inN nms) f = e at *
     by_cases hv : e = 0
     ·have hvb : (e != 0) = false := by simp [hv]
      have hy := lh (Hyes.out hv);clear Hyes Hno hv
      go_wp2_with (at_builtin; refine qhw rfl _ _ rfl (v := .slice A3 nms.length c3) rfl (Hn6.out.alloc _) w6.heap.size f.name rfl (heap_alloc_new _ _) Hnl.out (by simp; omega) ?_)
      intro v7 w7 hown7 hg7 hat7;have hown8 : w7.ownsRow W2.heap.size 9 1 v7 (nms ++ [f.name]).length ((nms ++ [f.name]).flatMap q0w) := by simpa using hown7
      have hlo := fun j (e : (Value.slice A3 nms.length c3).ownBlock = some j) => (Hn6.out.lt j e).1;have hb7 := (Hbr6.out.alloc hz6 (Obj.cells #[.string f.name] 9)).trans ((Grew.of_grown hg7).below (B := W2.heap.size) (fun j hj e => by have := hlo j e; omega) (by simp; omega));obtain ⟨Hown8, Hb7⟩ := lh2 hown8 hb7;clear hown7 hg7 hat7 hown8 hb7 hlo;go_wp2
      go_roundg (u.funcs.length - (i + 1))
      case measure => omega
      case rel => exact ⟨i + 1, by omega, rfl, by go_num, hy, by rw [Hnext.out]; exact Hown8, Hb7⟩
     ·have hvb : (e != 0) = true := by simp [hv]
      have heq := lh (Hno.out hv);clear Hyes Hno hv
      go_wp2_with fail
      refine q07 _ _ _ _ (fun w9 hb9 => ?_);have hbx : Below W2.heap.size W2 w9 := Hbr6.out.trans (((by exact bl0 : Below w6.heap.size w6 _).trans (hb9.mono (by first | exact Nat.le_refl _ | (simp; done) | (simp; omega)))).mono hz6);have hF9 := (hbx.block _ (qa HF2.out)).trans HF2.out;have Hfin := lh (HR.out _ ((Hb2.out.trans (hbx.mono Hb2.out.size)).setCell (p := ⟨w.heap.size + 1, 0, none⟩) (Nat.le_succ _) (.int .i64 (e)) |>.setCell (p := ⟨w.heap.size + 1, 1, none⟩) (Nat.le_succ _) (.int .i64 ((i : Int)))));rw [show qo u = (e, (i : Int)) from heq.out] at Hfin;obtain ⟨k0, k1⟩ := qi hF9;have f0 := fzz hF9 0;have f1 := fzz hF9 1;have l9 := qa hF9;have HF9 := lh hF9;clear hb9 hbx hF9;go_wp2;refine bodyPost_ret (v := (.agg #[.int .i64 ((e, (i : Int))).1, .int .i64 ((e, (i : Int))).2])) (q0m (by rfl) (by rfl) (qi (T := 30) (by exact (blkp HF9.out)))) rfl ?_;exact Hfin.out
    ·obtain rfl : i = u.funcs.length := by omega
     have hh : fst0 (q2f u) = 0 := by have := Hz.out; rwa [<- qgn u, List.take_length] at this
     have Hh := lh hh;have i2 : ¬ ((u.funcs.length : Int) < (u.funcs.length : Int)) := by omega
     have Hfh : Hid (∀ (k : Nat) (h : k < u.funcs.length), (0 ≤ u.funcs[k].regs ∧ u.funcs[k].regs ≤ 100) ∧ u.funcs[k].blocks.length ≤ 40) := lh fun k h => qgm (fst0_zero.1 hh _ (List.mem_of_getElem? (q8k h)));obtain ⟨u0, u1⟩ := qi ((Hbx.out.block _ (qa HU2.out)).trans HU2.out);have lU5 : w.heap.size < wr.heap.size := by have := qa HU2.out; omega
     clear Hn Hz hh;go_wp2;clear u0 u1
     go_loopg [107] u.funcs.length (fun gh s107 wy => ∃ i : Nat, i ≤ u.funcs.length ∧ gh = u.funcs.length - i ∧ s107 = .int .i64 (i : Int) ∧ Hid (fst0 ((q1q u).take i) = 0) ∧ Hid (Below W2.heap.size W2 wy))
     case atStart => exact ⟨0, Nat.zero_le _, rfl, rfl, lh rfl, Hbx⟩
     case round =>
      obtain ⟨i, hi, rfl, rfl, Hz, Hby⟩ := hrel;clear Hbx;have hzx := Hby.out.size
      by_cases hlt : i < u.funcs.length
      ·obtain ⟨b, off, vb, rfl, hb, hvb, q0, q1, q2, q3⟩ := Hf.out.fun_at hlt;obtain ⟨bA, bc, rfl, _, _, hvb⟩ := hvb.cases_;have Hbw := lh (Hb2.out.trans (Hby.out.mono Hb2.out.size));have i1 := nnn i;have i2 : (i : Int) < (u.funcs.length : Int) := by omega
       have lb : b < wr.heap.size := by have := Hbw.out.size; omega
       have p0 := (Hbw.out.cell (p := ⟨b, off + i * 4, none⟩) hb).trans q0;have p1 := (Hbw.out.cell (p := ⟨b, off + i * 4 + 1, none⟩) hb).trans q1;have p2 := (Hbw.out.cell (p := ⟨b, off + i * 4 + 2, none⟩) hb).trans q2;have p3 := (Hbw.out.cell (p := ⟨b, off + i * 4 + 3, none⟩) hb).trans q3;obtain ⟨u0, u1⟩ := qi ((Hby.out.block _ (qa HU2.out)).trans HU2.out);have lU5 : w.heap.size < wr.heap.size := by have := qa HU2.out; omega
       have Hyes : Hid (bodyF u u.funcs[i] = 0 -> fst0 ((q1q u).take (i + 1)) = 0) := lh fun h => q3e (q9n hlt) h Hz.out;have Hno : Hid (bodyF u u.funcs[i] ≠ 0 -> qo u = (bodyF u u.funcs[i], (i : Int))) := lh fun h => qgf Hmany.out Hz0.out Hh.out (q9n hlt) h Hz.out;obtain ⟨hrg, h40⟩ := Hfh.out i hlt;generalize u.funcs[i] = f at *;obtain ⟨W5, hW5⟩ := nmm ((wr.alloc (Obj.cells #[.string f.name, .int .i64 f.params, .int .i64 f.regs, .slice bA f.blocks.length bc] 56)).alloc (Obj.cells #[.slice gA u.globals.length gc, .slice (some ⟨b, off, none⟩) u.funcs.length fc, .string f.name, .int .i64 f.params, .int .i64 f.regs, .slice bA f.blocks.length bc, .slice none 0 0] 171));have Hb5 : Hid (Below wr.heap.size wr W5) := lh (by subst hW5; exact bl0)
       have HY5 : Hid (W5.heap[wr.heap.size + 1]? = some (.cells #[.slice gA u.globals.length gc, .slice (some ⟨b, off, none⟩) u.funcs.length fc, .string f.name, .int .i64 f.params, .int .i64 f.regs, .slice bA f.blocks.length bc, .slice none 0 0] 171 (0, 0))) := lh (by
        subst hW5;have := heap_alloc_new (wr.alloc (Obj.cells #[.string f.name, .int .i64 f.params, .int .i64 f.regs, .slice bA f.blocks.length bc] 56)) (Obj.cells #[.slice gA u.globals.length gc, .slice (some ⟨b, off, none⟩) u.funcs.length fc, .string f.name, .int .i64 f.params, .int .i64 f.regs, .slice bA f.blocks.length bc, .slice none 0 0] 171);simpa using this)
       have HW5 := lh hW5.symm;have Hbr5 := lh (Hby.out.trans (Hb5.out.mono hzx));have hz5 := Hbr5.out.size;have Hbw5 := lh (Hbw.out.trans (Hb5.out.mono Hbw.out.size));have hzw := Hbw5.out.size;have Hbl5 := lh (hvb.up Hbw5.out hzw);have Hf5 := lh (Hf.out.up Hbw5.out hzw);have Hw5 := lh (HW.out.up Hbw5.out hw0);obtain ⟨c0, c1, c2, c3', c4, c5, c6⟩ := qr HY5.out;have l5 := qa HY5.out;obtain ⟨gw, hgw⟩ := nmm (wr.heap.size);obtain ⟨Hrg, H40⟩ := lh2 hrg h40;clear q0 q1 q2 q3 hvb hW5 hrg h40
       go_upto_region 37 with fail
       rw [HW5.out];rw [<- hgw] at c0 c1 c2 c3' c4 c5 c6 l5 ⊢;clear p0 p1 p2 p3 lb Hb5 u0 u1 lU5 HY5 hgw HW5 Hbw
       go_wp2_with fail
       refine qgc u f gA _ bA u.globals.length gc _ fc bc W5 Hw5.out Hrg.out H40.out Hf5.out Hbl5.out _ (fun w6 hb6 => ?_);have Hbr6 := btt Hbr5 hb6 hz5;have hz6 := Hbr6.out.size;clear hb6 c0 c1 c2 c3' c4 c5 c6 l5 Hbl5 Hbr5;generalize bodyF u f = e at *
       by_cases hv : e = 0
       ·have hvb : (e != 0) = false := by simp [hv]
        have hy := lh (Hyes.out hv);clear Hyes Hno hv;go_wp2
        go_roundg (u.funcs.length - (i + 1))
        case measure => omega
        case rel => exact ⟨i + 1, by omega, rfl, by go_num, hy, Hbr6⟩
       ·have hvb : (e != 0) = true := by simp [hv]
        have heq := lh (Hno.out hv);clear Hyes Hno hv
        go_wp2_with fail
        refine q07 _ _ _ _ (fun w9 hb9 => ?_);have hbx : Below W2.heap.size W2 w9 := Hbr6.out.trans (((by exact bl0 : Below w6.heap.size w6 _).trans (hb9.mono (by first | exact Nat.le_refl _ | (simp; done) | (simp; omega)))).mono hz6);have hF9 := (hbx.block _ (qa HF2.out)).trans HF2.out;have Hfin := lh (HR.out _ ((Hb2.out.trans (hbx.mono Hb2.out.size)).setCell (p := ⟨w.heap.size + 1, 0, none⟩) (Nat.le_succ _) (.int .i64 (e)) |>.setCell (p := ⟨w.heap.size + 1, 1, none⟩) (Nat.le_succ _) (.int .i64 ((i : Int)))));rw [show qo u = (e, (i : Int)) from heq.out] at Hfin;obtain ⟨k0, k1⟩ := qi hF9;have f0 := fzz hF9 0;have f1 := fzz hF9 1;have l9 := qa hF9;have HF9 := lh hF9;clear hb9 hbx hF9;go_wp2;refine bodyPost_ret (v := (.agg #[.int .i64 ((e, (i : Int))).1, .int .i64 ((e, (i : Int))).2])) (q0m (by rfl) (by rfl) (qi (T := 30) (by exact (blkp HF9.out)))) rfl ?_;exact Hfin.out
      ·obtain rfl : i = u.funcs.length := by omega
       have hbz : fst0 (q1q u) = 0 := by have := Hz.out; rwa [<- qdn u, List.take_length] at this
       have hce := lh (qi6 Hmany.out Hz0.out Hh.out hbz);have i2 : ¬ ((u.funcs.length : Int) < (u.funcs.length : Int)) := by omega
       obtain ⟨u0, u1⟩ := qi ((Hby.out.block _ (qa HU2.out)).trans HU2.out);have lU5 : w.heap.size < wr.heap.size := by have := qa HU2.out; omega
       have Hbw := lh (Hb2.out.trans (Hby.out.mono Hb2.out.size));have Hff := lh (Hf.out.up Hbw.out Hbw.out.size);clear Hz hbz
       go_wp2_with fail
       refine qal u.funcs _ _ Hff.out _ (fun w6 hb6 => ?_);have Hbr6 := btt Hby hb6 hzx;have hz6 := Hbr6.out.size;obtain ⟨v0, v1⟩ := qi ((Hbr6.out.block _ (qa HU2.out)).trans HU2.out);have lU6 : w.heap.size < w6.heap.size := by have := qa HU2.out; omega
       have Hbw6 := lh (Hb2.out.trans (Hbr6.out.mono Hb2.out.size));clear hb6 u0 u1 Hff Hbw
       cases hmi : q4e u.funcs with
       | none =>
         have heq : Hid (qo u = (6, 0)) := lh (by rw [hce.out, hmi]);clear hmi hce;unfold idxZ
         go_wp2_with fail
         refine q07 _ _ _ _ (fun w9 hb9 => ?_);have hbx : Below W2.heap.size W2 w9 := Hbr6.out.trans (((by exact bl0 : Below w6.heap.size w6 _).trans (hb9.mono (by first | exact Nat.le_refl _ | (simp; done) | (simp; omega)))).mono hz6);have hF9 := (hbx.block _ (qa HF2.out)).trans HF2.out;have Hfin := lh (HR.out _ ((Hb2.out.trans (hbx.mono Hb2.out.size)).setCell (p := ⟨w.heap.size + 1, 0, none⟩) (Nat.le_succ _) (.int .i64 (6)) |>.setCell (p := ⟨w.heap.size + 1, 1, none⟩) (Nat.le_succ _) (.int .i64 (0))));rw [show qo u = (6, 0) from heq.out] at Hfin;obtain ⟨k0, k1⟩ := qi hF9;have f0 := fzz hF9 0;have f1 := fzz hF9 1;have l9 := qa hF9;have HF9 := lh hF9;clear hb9 hbx hF9;go_wp2;refine bodyPost_ret (v := (.agg #[.int .i64 ((6, 0)).1, .int .i64 ((6, 0)).2])) (q0m (by rfl) (by rfl) (qi (T := 30) (by exact (blkp HF9.out)))) rfl ?_;exact Hfin.out
       | some k =>
         have hkl : k < u.funcs.length := by
          unfold q4e at hmi;exact (List.findIdx?_eq_some_iff_getElem.1 hmi).1
         have heq : Hid (qo u = if 0 < u.funcs[k].params then (5, (k : Int)) else (0, 0)) := lh (by rw [hce.out, hmi]; simp [List.getElem?_eq_getElem hkl]);obtain ⟨b, off, vb, rfl, hb, hvb, q0, q1, q2, q3⟩ := Hf.out.fun_at hkl;have k1 := nnn k;have k2 : (k : Int) < (u.funcs.length : Int) := by omega
         have p1 := (Hbw6.out.cell (p := ⟨b, off + k * 4 + 1, none⟩) hb).trans q1;have lb6 : b < w6.heap.size := by have := Hbw6.out.size; omega
         clear hmi hce q0 q1 q2 q3 hvb;unfold idxZ
         by_cases hp : 0 < u.funcs[k].params
         ·have heq : Hid (qo u = (5, (k : Int))) := lh (by rw [heq.out, if_pos hp])
          go_wp2_with fail
          refine q07 _ _ _ _ (fun w9 hb9 => ?_);have hbx : Below W2.heap.size W2 w9 := Hbr6.out.trans (((by exact bl0 : Below w6.heap.size w6 _).trans (hb9.mono (by first | exact Nat.le_refl _ | (simp; done) | (simp; omega)))).mono hz6);have hF9 := (hbx.block _ (qa HF2.out)).trans HF2.out;have Hfin := lh (HR.out _ ((Hb2.out.trans (hbx.mono Hb2.out.size)).setCell (p := ⟨w.heap.size + 1, 0, none⟩) (Nat.le_succ _) (.int .i64 (5)) |>.setCell (p := ⟨w.heap.size + 1, 1, none⟩) (Nat.le_succ _) (.int .i64 ((k : Int)))));rw [show qo u = (5, (k : Int)) from heq.out] at Hfin;obtain ⟨k0, k1⟩ := qi hF9;have f0 := fzz hF9 0;have f1 := fzz hF9 1;have l9 := qa hF9;have HF9 := lh hF9;clear hb9 hbx hF9;go_wp2;refine bodyPost_ret (v := (.agg #[.int .i64 ((5, (k : Int))).1, .int .i64 ((5, (k : Int))).2])) (q0m (by rfl) (by rfl) (qi (T := 30) (by exact (blkp HF9.out)))) rfl ?_;exact Hfin.out
         ·have hFx := (Hbr6.out.block _ (qa HF2.out)).trans HF2.out;have Hfin := lh (HR.out _ ((Hbw6.out.setCell (p := ⟨w.heap.size + 1, 0, none⟩) (Nat.le_succ _) (.int .i64 0)).setCell (p := ⟨w.heap.size + 1, 1, none⟩) (Nat.le_succ _) (.int .i64 0)));rw [show qo u = (0, 0) from by rw [heq.out, if_neg hp]] at Hfin;obtain ⟨k0, k1'⟩ := qi hFx;have f0 := fzz hFx 0;have f1 := fzz hFx 1;have l9 := qa hFx;have HF9 := lh hFx;clear hFx heq;go_wp2;refine bodyPost_ret (v := (.agg #[.int .i64 ((0, 0)).1, .int .i64 ((0, 0)).2])) (q0m (by rfl) (by rfl) (qi (T := 30) (by exact (blkp HF9.out)))) rfl ?_;exact Hfin.out
theorem qc0 (nm : ByteArray) (pr rg : Int) (l : List UBlk) (v : Value) (w : World) (h : rpBlk.SL w w.heap.size l v) (h40 : l.length ≤ 40) (hok : ∀ b ∈ l, b.end_.to.length ≤ 2 ∧ ∀ t ∈ b.end_.to, 0 ≤ t ∧ t < (l.length : Int)) (R : Ending -> World -> Prop)
 (hR : ∀ w' v', Below w.heap.size w w' -> rpInt.slice.SLF w' w.heap.size w'.heap.size (q3a l) v' -> R (.returned v') w') :
 Calls Tryz.prog 115 #[.agg #[.string nm, .int .i64 pr, .int .i64 rg, v]] w R := by
 obtain ⟨A, c, rfl, hmx, hcap, hs⟩ := h.cases_;obtain ⟨HR, Hs, Hok⟩ := lh3 hR hs hok;clear hR hs h hok;have hmk := qce (w.alloc (Obj.cells #[.string nm, .int .i64 pr, .int .i64 rg, .slice A l.length c] 56)) l.length (by omega);obtain ⟨g, hg⟩ := nmm (w.heap.size + 1);obtain ⟨W2, hW2⟩ := nmm ((w.alloc (Obj.cells #[.string nm, .int .i64 pr, .int .i64 rg, .slice A l.length c] 56)).alloc (.cells (List.replicate l.length (Value.slice none 0 0)).toArray 26));have hsz : (w.alloc (Obj.cells #[.string nm, .int .i64 pr, .int .i64 rg, .slice A l.length c] 56)).heap.size = g := by rw [hg]; simp
 have hblk2 : W2.heap[g]? = some (.cells (List.replicate l.length (Value.slice none 0 0)).toArray 26 (0, 0)) := by rw [hW2, <- hsz]; exact heap_alloc_new _ _
 rw [<- hW2, hsz] at hmk;have hb2 : Below w.heap.size w W2 := by rw [hW2]; exact bl0
 have hE2 : W2.heap[w.heap.size]? = some (.cells #[.string nm, .int .i64 pr, .int .i64 rg, .slice A l.length c] 56 (0, 0)) := by rw [hW2]; exact qf (heap_alloc_new _ _) _
 obtain ⟨Hb2, Hblk2, HE2⟩ := lh3 hb2 hblk2 hE2;have Htab2 : Hid (Tab W2 (g + 1) (List.replicate l.length (.slice none 0 0)) (tabE l.length (qq l 0))) := lh (by rw [qq, qft]; exact Tab.first);have hgw : w.heap.size < g := by omega
 obtain ⟨e0, e1, e2, e3⟩ := q0j hE2;have hlE := qa hE2;have hsz2 := hb2.size;clear hW2 hb2 hblk2 hE2 hg hsz
 go_enter Tryz.func115, Tryz.ntmps115
 go_wp2;clear e0 e1 e2 e3 hlE
 go_loopg [15] l.length (fun gh s15 wr => ∃ (i : Nat) (V : List Value), i ≤ l.length ∧ gh = l.length - i ∧ s15 = .int .i64 (i : Int) ∧ Hid (Tab wr (g + 1) V (tabE l.length (qq l i))) ∧ Hid (Below w.heap.size w wr) ∧ Hid (wr.heap[g]? = some (.cells V.toArray 26 (0, 0))))
 case atStart => exact ⟨0, _, Nat.zero_le _, rfl, rfl, Htab2, Hb2, Hblk2⟩
 case round =>
  obtain ⟨i, V, hi, rfl, rfl, Htab, Hb, Hblk⟩ := hrel;clear Htab2 Hb2 Hblk2 HE2 hmk;have hz := Hb.out.size
  by_cases hlt : i < l.length
  ·obtain ⟨b, off, vp, vl, vt, rfl, hb, hp, hl, ht, q0, q1, q2, q3, q4, q5⟩ := Hs.out.blk_at hlt;obtain ⟨Ap, cp, rfl, _, _, hp⟩ := hp.cases_;obtain ⟨Al, cl, rfl, _, _, hl⟩ := hl.cases_;obtain ⟨At, ct, rfl, _, _, ht⟩ := ht.cases_;have i1 := nnn i;have i2 : (i : Int) < (l.length : Int) := by omega
   have lb : b < wr.heap.size := by omega
   have r0 := (Hb.out.cell (p := ⟨b, off + i * 6, none⟩) hb).trans q0;have r1 := (Hb.out.cell (p := ⟨b, off + i * 6 + 1, none⟩) hb).trans q1;have r2 := (Hb.out.cell (p := ⟨b, off + i * 6 + 2, none⟩) hb).trans q2;have r3 := (Hb.out.cell (p := ⟨b, off + i * 6 + 3, none⟩) hb).trans q3;have r4 := (Hb.out.cell (p := ⟨b, off + i * 6 + 4, none⟩) hb).trans q4;have r5 := (Hb.out.cell (p := ⟨b, off + i * 6 + 5, none⟩) hb).trans q5;have Hto := lh (Hok.out _ (List.getElem_mem hlt));have Hst : Hid (qq l (i + 1) = qq l i ++ l[i].end_.to.map fun t => ((i : Int), t)) := lh (q79 hlt);have Helen := lh (q5m (l := l) (fun b hb => (Hok.out b hb).1) i);have Hti := lh ht;generalize l[i].end_.to = ts at *;generalize l[i] = bk at *;obtain ⟨W3, hW3⟩ := nmm (wr.alloc (Obj.cells #[.slice Ap bk.phis.length cp, .slice Al bk.list.length cl, .int .i64 bk.end_.kind, .bool bk.end_.on.reg, .int .i64 bk.end_.on.n, .slice At ts.length ct] 68));have hbw : Below wr.heap.size wr W3 := by subst hW3; exact bl0
   have hB3 := Hb.out.trans (hbw.mono hz);have hX3 : W3.heap[wr.heap.size]? = some (.cells #[.slice Ap bk.phis.length cp, .slice Al bk.list.length cl, .int .i64 bk.end_.kind, .bool bk.end_.on.reg, .int .i64 bk.end_.on.n, .slice At ts.length ct] 68 (0, 0)) := by subst hW3; exact heap_alloc_new _ _
   have hV3 := (hbw.block _ (qa Hblk.out)).trans Hblk.out;have HT3 := lh (Htab.out.keep (fun k _ hl => hbw.block k hl));obtain ⟨HB3, HV3⟩ := lh2 hB3 hV3;have Hts3 := lh (Hti.out.up hB3 hB3.size);have HW3 := lh hW3.symm;have hlX := qa hX3;obtain ⟨x0, x1, x2, x3, x4, x5⟩ := q1d hX3;have hgsz : g < wr.heap.size := qa Hblk.out;have HE3 : Hid (tabE l.length (qq l i ++ (ts.take 0).map fun t => ((i : Int), t)) = tabE l.length (qq l i)) := lh (by simp);clear Htab Hb Hblk hbw hB3 hV3 hX3 hW3 hp hl ht q0 q1 q2 q3 q4 q5
   go_upto_region 5 with fail
   rw [HW3.out];go_wp2;clear r0 r1 r2 r3 r4 r5 x0 x1 x2 x3 x4 x5 hlX lb HW3
   go_loopg [24] ts.length (fun gh s24 wx => ∃ (j : Nat) (V' : List Value), j ≤ ts.length ∧ gh = ts.length - j ∧ s24 = .int .i64 (j : Int) ∧ Hid (Tab wx (g + 1) V' (tabE l.length (qq l i ++ (ts.take j).map fun t => ((i : Int), t)))) ∧ Hid (Below w.heap.size w wx) ∧ Hid (wx.heap[g]? = some (.cells V'.toArray 26 (0, 0))))
   case atStart => exact ⟨0, V, Nat.zero_le _, rfl, rfl, by rw [HE3.out]; exact HT3, HB3, HV3⟩
   case round =>
    obtain ⟨j, V', hj, rfl, rfl, Htab6, Hb6, HblkV6⟩ := hrel;clear HT3 HB3 HV3 HE3;have hz6 := Hb6.out.size
    by_cases hlj : j < ts.length
    ·obtain ⟨bt, ot, rfl, hbt, q0⟩ := Hti.out.int_at hlj;have p0 := (Hb6.out.cell (p := ⟨bt, ot + j, none⟩) hbt).trans q0;have hgd : ts.getD j 0 = ts[j] := by rw [List.getD_eq_getElem?_getD, List.getElem?_eq_getElem hlj]; rfl
     obtain ⟨t, htt, htn⟩ : ∃ t : Nat, ts.getD j 0 = (t : Int) ∧ t < l.length := by
      have := Hto.out.2 ts[j] (List.getElem_mem hlj);exact ⟨ts[j].toNat, by rw [hgd]; omega, by omega⟩
     have Hm : Hid (tabE l.length (qq l i ++ (ts.take (j + 1)).map fun t => ((i : Int), t)) = (tabE l.length (qq l i ++ (ts.take j).map fun t => ((i : Int), t))).set t (rowE (qq l i ++ (ts.take j).map fun t => ((i : Int), t)) t ++ [(i : Int)])) := lh (by
      rw [List.take_succ_eq_append_getElem hlj, List.map_append, <- List.append_assoc, <- qd0 htn, <- htt, hgd];rfl)
     have hEl : (qq l i ++ (ts.take j).map fun t => ((i : Int), t)).length ≤ 100 := by
      rw [List.length_append, List.length_map, List.length_take];have := Helen.out;have := Hto.out.1;omega
     have hfw : (rowE (qq l i ++ (ts.take j).map fun t => ((i : Int), t)) t).length ≤ 100 := Nat.le_trans (qfm _ _) hEl;rw [htt] at p0;have hTL := q2d l.length (qq l i ++ (ts.take j).map fun t => ((i : Int), t));have hVl : t < V'.length := by rw [Htab6.out.len, hTL]; exact htn
     have hkT : t < (tabE l.length (qq l i ++ (ts.take j).map fun t => ((i : Int), t))).length := by rw [hTL]; exact htn
     have ho := Htab6.out.own t hkT;rw [q92 htn] at ho
     have q2 : wr.cell? ⟨g, t, none⟩ = some (atT V' t) := by
      rw [qb HblkV6.out];unfold atT;rw [List.getD_eq_getElem?_getD, List.getElem?_eq_getElem hVl];simp [hVl]
     obtain ⟨A6, c6, hs6⟩ := qj ho;have n1 := Htab6.out.not hkT HblkV6.out (by decide);generalize rowE (qq l i ++ (ts.take j).map fun t => ((i : Int), t)) t = X at *;have hpush := fun (W1 : World) (hk1 : ∀ k, g + 1 ≤ k -> k < wr.heap.size -> W1.heap[k]? = wr.heap[k]?) (w' : World) (v' : Value) (h1 : w'.ownsRow (g + 1) 3 1 v' (X ++ [(i : Int)]).length ((X ++ [(i : Int)]).flatMap qh)) => (Htab6.out.keep hk1).push (w' := w') hkT h1;have hlo := fun j (e : (atT V' t).ownBlock = some j) => (Htab6.out.lt hkT e).1;rw [hs6] at hlo;have Hlo := lh hlo;rw [hs6] at q2 ho n1 hpush;obtain ⟨Ho, Hpush, Hn, HVl, Hfw⟩ := lh5 ho hpush n1 hVl hfw;have lG := qa HblkV6.out;have t1 := nnn t;have t2 : (t : Int) < (l.length : Int) := by omega
     have j1 := nnn j;have j2 : (j : Int) < (ts.length : Int) := by omega
     have lbt : bt < wr.heap.size := by omega
     clear hTL ho hpush n1 hVl hs6 hkT hfw hEl q0 hgd hlo;have Hbt := lh hbt;clear hbt;have f2 := fzz HblkV6.out t;have Hal := lh (show ∀ k, g + 1 ≤ k -> k < wr.heap.size -> (wr.alloc (Obj.cells #[.int .i64 (i : Int)] 3)).heap[k]? = wr.heap[k]? from fun k _ hl => (by exact bl0 : Below wr.heap.size wr (wr.alloc (Obj.cells #[.int .i64 (i : Int)] 3))).block k hl);have Hbal := lh (Hb6.out.alloc hz6 (Obj.cells #[.int .i64 (i : Int)] 3));have hgr : g + 1 ≤ (wr.alloc (Obj.cells #[.int .i64 (i : Int)] 3)).heap.size := by simp; omega
     go_wp2_with (at_builtin; refine qae rfl _ _ rfl (v := .slice A6 X.length c6) rfl (Ho.out.alloc _) wr.heap.size (i : Int) rfl (heap_alloc_new _ _) Hfw.out hgr ?_)
     intro v7 w7 hown7 hg7 hat7;have hown8 : w7.ownsRow (g + 1) 3 1 v7 (X ++ [(i : Int)]).length ((X ++ [(i : Int)]).flatMap qh) := by simpa using hown7
     clear hown7;have Htab7 := Hpush.out _ Hal.out _ _ hown8 hg7 (by rw [show (wr.alloc (Obj.cells #[.int .i64 (i : Int)] 3)).heap.size = wr.heap.size + 1 from by simp]; exact hat7);have hV7 := (hg7.block _ (by simp; omega) Hn.out).trans (qf HblkV6.out _);have hb7 := Hbal.out.trans ((Grew.of_grown hg7).below (B := w.heap.size) (fun j hj e => by have := Hlo.out j e; omega) (by simp; omega));obtain ⟨A7, c7, rfl⟩ := qj hown8;have q7 : w7.cell? ⟨g, t, none⟩ = some (.slice A6 X.length c6) := hg7.cell (by rw [World.cell?_alloc_lt _ _ _ (show g < wr.heap.size from lG)]; exact q2) Hn.out;generalize (X ++ [(i : Int)]).length = N7 at *;obtain ⟨HV7, Hb7, HT7⟩ := lh3 hV7 hb7 Htab7;have f7 := fzz hV7 t;have l7 : g < w7.heap.size := qa hV7;clear hown8 hg7 hat7 Htab7 hV7 hb7 q2 f2 lG hgr Hlo Hpush Hal Hbal p0;go_wp2
     go_roundg (ts.length - (j + 1))
     case measure => omega
     case rel =>
      refine ⟨j + 1, V'.set t (.slice A7 N7 c7), by omega, rfl, by go_num, ?_, lh (Hb7.out.setCell (p := ⟨g, t, none⟩) (by show w.heap.size ≤ g; omega) _), lh ?_⟩
      ·rw [Hm.out];exact lh (HT7.out.keep (fun k' h1 _ => Below.heap_setCell _ _ _ _ (by show k' ≠ g; omega)))
      ·rw [q0h HV7.out, List.setIfInBounds_toArray]
    ·obtain rfl : j = ts.length := by omega
     have j2 : ¬ ((ts.length : Int) < (ts.length : Int)) := by omega
     have HTn : Hid (Tab wr (g + 1) V' (tabE l.length (qq l (i + 1)))) := lh (by rw [Hst.out]; have := Htab6.out; rwa [List.take_length] at this);clear Htab6;go_wp2
     go_roundg (l.length - (i + 1))
     case measure => omega
     case rel => exact ⟨i + 1, V', by omega, rfl, by go_num, HTn, Hb6, HblkV6⟩
  ·obtain rfl : i = l.length := by omega
   have i2 : ¬ ((l.length : Int) < (l.length : Int)) := by omega
   have hsl := Htab.out.SLF (b := w.heap.size) Hblk.out (by omega) (by omega) (by rw [q2d]; unfold maxLen; omega);rw [q2d] at hsl;have Hfin := lh (HR.out _ _ Hb.out (by rw [<- qfs]; exact hsl));clear hsl;go_wp2;exact Hfin.out
theorem qc4 (l : List Int) (v : Value) (n : Int) (w : World) (h : rpInt.SL w w.heap.size l v) (R : Ending -> World -> Prop)
 (hR : ∀ r : Int, R (.returned (.int .i64 r)) w) : Calls Tryz.prog 63 #[v, .int .i64 n] w R := by
 obtain ⟨A, c, rfl, hm, hcap, h⟩ := h.cases_;obtain ⟨HR, H⟩ := lh2 hR h;clear hR h
 go_enter Tryz.func63, Tryz.ntmps63
 go_wp2
 go_loopg [5, 8] l.length (fun g s5 i wr => ∃ k : Nat, k ≤ l.length ∧ g = l.length - k ∧ i = .int .i64 k ∧ wr = w)
 case atStart => exact ⟨0, Nat.zero_le _, rfl, rfl, rfl⟩
 case round =>
  obtain ⟨k, hk, rfl, rfl, rfl⟩ := hrel;rename World => w;have i1 := nnn k
  by_cases hlt : k < l.length
  ·obtain ⟨b, off, rfl, hb, q0⟩ := H.out.int_at hlt;have i2 : (k : Int) < (l.length : Int) := by omega
   generalize l.getD k 0 = s at *
   by_cases hx : n = s
   ·have hne : (n == s) = true := by simpa using hx
    clear hx;go_wp2;exact HR.out _
   ·have hne : (n == s) = false := by simpa using hx
    clear hx;go_wp2
    go_roundg (l.length - (k + 1))
    case measure => omega
    case rel => exact ⟨k + 1, hlt, rfl, by go_num, rfl⟩
  ·obtain rfl : k = l.length := by omega
   go_wp2;exact HR.out _
theorem q9u : (Tryz.prog.info? 4).map (fun i => (i.zero, i.size, i.bytes)) = some (some (.bool false), 1, 1) := by kernel_rfl
theorem qfh (W : World) (n : Nat) (hn : n ≤ 5000) : (Instr.makeSlice 160 (.int .i64 (n : Int)) (.int .i64 (n : Int))).run Tryz.prog W = .ok (.slice (some ⟨W.heap.size, 0, none⟩) n n) (W.alloc (.cells (bitsA (List.replicate n false)) 4)) := by
 obtain ⟨iB, hi, z0, z1, z2⟩ := info_parts q9u;have h := run_make (P := Tryz.prog) W 160 4 iB _ Tryz.underlying160 hi z0 .i64 .i64 (n : Int) (n : Int) (by omega) (Int.le_refl _) (by rw [z2]; omega) (by omega);rw [z1] at h;simp only [Int.toNat_natCast, Nat.mul_one] at h
 have e : madeCells (Value.bool false).cells n = bitsA (List.replicate n false) := by
  unfold madeCells bitsA;apply Array.ext
  ·simp
  ·intro i h1 h2;simp [Value.cells, Nat.mod_one]
 rw [e] at h;exact h
theorem SetAt.SL {g cp : Nat} {S : List Bool} {w : World} (h : SetAt g S w) (hm : S.length ≤ maxLen) (hc : S.length ≤ cp) : rpBool.SL w w.heap.size S (.slice (some ⟨g, 0, none⟩) S.length cp) := by
 refine ⟨_, _, rfl, hm, hc, fun _ => ⟨g, 0, rfl, h.lt, fun k x hk => ⟨_, rfl, fun j u hj => ?_⟩⟩⟩
 cases j with
 | zero =>
   simp at hj;subst hj;have hlt := (List.getElem?_eq_some_iff.1 hk).1;have := h.cell hlt;rw [q6z hlt] at hk;injection hk with hk
   rw [<- hk];simpa [rpBool] using this
 | succ j => simp at hj
theorem Rp.SL.bool_at {w : World} {B : Nat} {xs : List Bool} {A : Option Addr} {n c k : Nat} (h : rpBool.SL w B xs (.slice A n c)) (hk : k < xs.length) : ∃ b off, A = some ⟨b, off, none⟩ ∧ b < B ∧ w.cell? ⟨b, off + k, none⟩ = some (.bool (bAt xs k)) := by
 obtain ⟨b, off, cs, hA, hb, hr, hcs⟩ := h.at_ (q6z hk);refine ⟨b, off, hA, hb, ?_⟩
 cases hr
 have := hcs 0 _ rfl;simpa [rpBool] using this
theorem qk1 {S T : List Bool} (h : S.length = T.length) : (∀ k, k < S.length -> bAt S k = bAt T k) ↔ S = T :=
 ⟨fun he => qmu h he, fun e k _ => by rw [e]⟩
theorem q9e (S T : List Bool) (v1 v2 : Value) (w : World) (h1 : rpBool.SL w w.heap.size S v1) (h2 : rpBool.SL w w.heap.size T v2) (hl : S.length = T.length) (R : Ending -> World -> Prop)
 (hR : ∀ w', Below w.heap.size w w' -> R (.returned (.bool (decide (S = T)))) w') : Calls Tryz.prog 120 #[v1, v2] w R := by
 obtain ⟨A1, c1, rfl, hm1, _, h1⟩ := h1.cases_;obtain ⟨A2, c2, rfl, hm2, _, h2⟩ := h2.cases_;obtain ⟨HR, H1, H2, Hl⟩ := lh4 hR h1 h2 hl;have hne : ((S.length : Int) != (T.length : Int)) = false := by rw [hl]; simp
 clear hR h1 h2 hl
 go_enter Tryz.func120, Tryz.ntmps120
 go_wp2
 go_loopg [5, 13] S.length (fun g s5 i wr => ∃ k : Nat, k ≤ S.length ∧ g = S.length - k ∧ i = .int .i64 k ∧ Hid (∀ j, j < k -> bAt S j = bAt T j) ∧ Hid (Below w.heap.size w wr))
 case atStart => exact ⟨0, Nat.zero_le _, rfl, rfl, lh (fun j h => absurd h (Nat.not_lt_zero j)), lh bl0⟩
 case round =>
  obtain ⟨k, hk, rfl, rfl, He, Hb⟩ := hrel;have i1 := nnn k;have hz := Hb.out.size
  by_cases hlt : k < S.length
  ·obtain ⟨b, off, rfl, hb, q0⟩ := H1.out.bool_at hlt;obtain ⟨b', off', rfl, hb', q1⟩ := H2.out.bool_at (k := k) (by rw [<- Hl.out]; exact hlt);have p0 := (Hb.out.cell (p := ⟨b, off + k, none⟩) hb).trans q0;have p1 := (Hb.out.cell (p := ⟨b', off' + k, none⟩) hb').trans q1;have lb : b < wr.heap.size := by omega
   have lb' : b' < wr.heap.size := by omega
   have i2 : (k : Int) < (S.length : Int) := by omega
   have i3 : (k : Int) < (T.length : Int) := by rw [<- Hl.out]; exact i2
   have Hno : Hid (bAt S k ≠ bAt T k -> decide (S = T) = false) := lh fun h => decide_eq_false fun e => h (by rw [e])
   have Hyes : Hid (bAt S k = bAt T k -> ∀ j, j < k + 1 -> bAt S j = bAt T j) := lh fun h j hj => by
    rcases Nat.lt_or_ge j k with h1 | h1
    ·exact He.out j h1
    ·obtain rfl : j = k := by omega
     exact h
   generalize bAt S k = x at *;generalize bAt T k = y at *;clear q0 q1 hne
   by_cases hxy : x = y
   ·have hy := lh (Hyes.out hxy);subst hxy;have hb1 : (x == x) = true := by simp
    clear Hno Hyes
    go_wp2_with fail
    go_quiet (fail)
    go_wp2
    go_roundg (S.length - (k + 1))
    case measure => omega
    case rel => exact ⟨k + 1, hlt, rfl, by go_num, hy, lh (qm Hb.out _)⟩
   ·have hb1 : (x == y) = false := by simpa using hxy
    have Hfin : Hid (∀ n, R (.returned (.bool false)) (wr.drewN n)) := lh fun n => by
     have := HR.out _ (qm Hb.out n)
     rwa [Hno.out hxy] at this
    clear Hno Hyes hxy
    go_wp2_with fail
    go_quiet (fail)
    go_wp2;exact Hfin.out _
  ·obtain rfl : k = S.length := by omega
   have Hfin := lh (HR.out _ Hb.out);rw [decide_eq_true ((qk1 Hl.out).1 He.out)] at Hfin;have i2 : ¬ ((S.length : Int) < (S.length : Int)) := by omega
   clear hne;go_wp2;exact Hfin.out
end Go.Proofs.YtdanebboiekieaaGreatDoor
