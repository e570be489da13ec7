/- code.Check, whole; printed by genunb.py. -/
import Derived.Test.YtdanebboiekieaaGreatDoorQ01
import Derived.Test.YtdanebboiekieaaGreatDoorRows
import Derived.IntWalk
import Derived.Outline
import Derived.Deep.LoopGhost
import Derived.Deep.CutBlock
import Derived.Deep.DeepCutAuto
import Derived.Test.YtdanebboiekieaaGreatDoorQ13
namespace Go.Proofs.YtdanebboiekieaaGreatDoor
open Go.RowKit
set_option linter.unusedSimpArgs false
set_option linter.unusedVariables false

theorem globFrom_stepU {l : List Global} {k : Nat} (sum : Int) (h : k < l.length) : globFrom l (l.length - k) k sum =
 if goodName l[k].name = false then (12, (k : Int))
 else if inN ((l.take k).map (·.name)) l[k].name = true then (7, (k : Int))
 else if l[k].size < 1 ∨ 200 < l[k].size then (3, (k : Int))
 else if l[k].size < l[k].init.length then (9, (k : Int))
 else if 200 < sum + l[k].size then (10, (k : Int))
 else globFrom l (l.length - (k + 1)) (k + 1) (sum + l[k].size) := by
 have e : inN ((l.take k).map (·.name)) l[k].name = (l.take k).any fun o => decide (o.name = l[k].name) := by
  unfold inN
  rw [List.any_map]
  rfl
 rw [show l.length - k = (l.length - (k + 1)) + 1 from by omega, globFrom, List.getElem?_eq_getElem h, e]
def nmsF (u : Unt) (i : Nat) : List ByteArray := u.globals.map (·.name) ++ (u.funcs.take i).map (·.name)
theorem nmsF_step {u : Unt} {i : Nat} (h : i < u.funcs.length) : nmsF u (i + 1) = nmsF u i ++ [u.funcs[i].name] := by
 unfold nmsF
 rw [List.take_succ_eq_append_getElem h, List.map_append, List.append_assoc]
 rfl
theorem nmsF_len {u : Unt} {i : Nat} (h : i ≤ u.funcs.length) : (nmsF u i).length = u.globals.length + i := by
 unfold nmsF
 rw [List.length_append, List.length_map, List.length_map, List.length_take]
 omega
theorem headsF_at {u : Unt} {i : Nat} (h : i < u.funcs.length) : (headsF u)[i]? = some (headF (inN (nmsF u i)) u.funcs[i]) := by
 unfold headsF
 rw [List.getElem?_mapIdx, List.getElem?_eq_getElem h]
 rfl
theorem bodiesF_at {u : Unt} {i : Nat} (h : i < u.funcs.length) : (bodiesF u)[i]? = some (bodyF u u.funcs[i]) := by
 unfold bodiesF
 rw [List.getElem?_map, List.getElem?_eq_getElem h]
 rfl
theorem headsF_len (u : Unt) : (headsF u).length = u.funcs.length := by simp [headsF]
theorem bodiesF_len (u : Unt) : (bodiesF u).length = u.funcs.length := by simp [bodiesF]
theorem head_facts {n : ByteArray → Bool} {f : UFun} (h : headF n f = 0) : (0 ≤ f.regs ∧ f.regs ≤ 100) ∧ f.blocks.length ≤ 40 := by
 unfold headF at h
 split at h
 ·simp at h
 split at h
 ·simp at h
 split at h
 ·simp at h
 split at h
 ·simp at h
 omega
/-- What checkF is, stage by stage. -/
theorem check_glob {u : Unt} (h : ¬ (10 < u.globals.length ∨ 10 < u.funcs.length)) {f : Int × Int} (hg : globFrom u.globals u.globals.length 0 0 = f) (hf : f ≠ (0, 0)) : checkF u = f := by
 unfold checkF
 rw [if_neg h, if_pos (by rw [hg]; exact hf), hg]
theorem check_head {u : Unt} (h : ¬ (10 < u.globals.length ∨ 10 < u.funcs.length)) (hg : globFrom u.globals u.globals.length 0 0 = (0, 0)) {i : Nat} {e : Int} (he : (headsF u)[i]? = some e) (hne : e ≠ 0) (hz : fst0 ((headsF u).take i) = 0) : checkF u = (e, (i : Int)) := by
 unfold checkF
 rw [if_neg h, if_neg (fun hn => hn hg), if_pos (by rw [fst0_at he hne hz]; exact hne)]
 exact fstAt_at he hne hz
theorem check_body {u : Unt} (h : ¬ (10 < u.globals.length ∨ 10 < u.funcs.length)) (hg : globFrom u.globals u.globals.length 0 0 = (0, 0)) (hh : fst0 (headsF u) = 0) {i : Nat} {e : Int} (he : (bodiesF u)[i]? = some e) (hne : e ≠ 0) (hz : fst0 ((bodiesF u).take i) = 0) : checkF u = (e, (i : Int)) := by
 unfold checkF
 rw [if_neg h, if_neg (fun hn => hn hg), if_neg (fun hn => hn hh), if_pos (by rw [fst0_at he hne hz]; exact hne)]
 exact fstAt_at he hne hz
theorem check_end {u : Unt} (h : ¬ (10 < u.globals.length ∨ 10 < u.funcs.length)) (hg : globFrom u.globals u.globals.length 0 0 = (0, 0)) (hh : fst0 (headsF u) = 0) (hb : fst0 (bodiesF u) = 0) : checkF u = match mainIdx u.funcs with
 | none => (6, 0)
 | some i => match u.funcs[i]? with
   | none => (6, 0)
   | some f => if 0 < f.params then (5, (i : Int)) else (0, 0) := by
 unfold checkF
 rw [if_neg h, if_neg (fun hn => hn hg), if_neg (fun hn => hn hh), if_neg (fun hn => hn hb)]
 rfl
set_option maxRecDepth 100000 in
set_option maxHeartbeats 16000000 in
theorem Check_calls (u : Unt) (hu : UntI u) (gA fA : Option Addr) (gn gc fn fc : Nat) (w : World) (hW : Ways w) (hg : rpGlobal.SL w w.heap.size u.globals (.slice gA gn gc)) (hf : rpFun.SL w w.heap.size u.funcs (.slice fA fn fc)) (R : Ending → World → Prop)
 (hR : ∀ w', Below w.heap.size w w' → R (.returned (.agg #[.int .i64 (checkF u).1, .int .i64 (checkF u).2])) w') : Calls Tryz.prog 93 #[.agg #[.slice gA gn gc, .slice fA fn fc]] w R := by
 have e1 := hg.len
 have e2 := hf.len
 subst e1 e2
 have hgm := hg.max
 have hfm := hf.max
 unfold maxLen at hgm hfm
 have hw0 := hW.1
 have HR := Lib.hid hR
 have Hg := Lib.hid hg
 have Hf := Lib.hid hf
 have HW := Lib.hid hW
 have HU := Lib.hid hu
 obtain ⟨W2, hW2⟩ : ∃ W2, W2 = (w.alloc (Obj.cells #[.slice gA u.globals.length gc, .slice fA u.funcs.length fc] 25)).alloc (Obj.cells #[.int .i64 0, .int .i64 0] 30) := ⟨_, rfl⟩
 have HU2 : Hid (W2.heap[w.heap.size]? = some (.cells #[.slice gA u.globals.length gc, .slice fA u.funcs.length fc] 25 (0, 0))) := Lib.hid (by subst hW2; exact blk_alloc (heap_alloc_new _ _) _)
 have HF2 : Hid (W2.heap[w.heap.size + 1]? = some (.cells #[.int .i64 0, .int .i64 0] 30 (0, 0))) := Lib.hid (by
  subst hW2
  have := heap_alloc_new (w.alloc (Obj.cells #[.slice gA u.globals.length gc, .slice fA u.funcs.length fc] 25)) (Obj.cells #[.int .i64 0, .int .i64 0] 30)
  simpa using this)
 have Hb2 : Hid (Below w.heap.size w W2) := Lib.hid (by subst hW2; exact bl0)
 have hs2 : W2.heap.size = w.heap.size + 2 := by subst hW2; simp
 have HW2 := Lib.hid hW2.symm
 have lU := blk_lt HU2.out
 obtain ⟨u0, u1⟩ := cells_blk HU2.out
 clear hR hg hf hW hW2 hu hs2
 by_cases hm0 : 10 < u.globals.length
 ·have hi0 : (10 : Int) < (u.globals.length : Int) := by omega
  have heq : Hid (checkF u = (2, 0)) := Lib.hid (by unfold checkF; rw [if_pos (.inl hm0)])
  clear hm0
  go_enter Tryz.func93, Tryz.ntmps93
  go_upto_region 1 with fail
  rw [HW2.out]
  obtain ⟨wr, hwr⟩ : ∃ wr, wr = W2 := ⟨_, rfl⟩
  have Hbr : Hid (Below W2.heap.size W2 wr) := Lib.hid (by subst hwr; exact Below.refl _ _)
  have hzr := Hbr.out.size
  rw [← hwr]
  rw [← hwr] at u0 u1 lU
  clear hwr
  go_wp2_with fail
  refine Fault_calls _ _ _ _ (fun w9 hb9 => ?_)
  have hbx : Below W2.heap.size W2 w9 := Hbr.out.trans (((by exact bl0 : Below wr.heap.size wr _).trans (hb9.mono (by first | exact Nat.le_refl _ | (simp; done) | (simp; omega)))).mono hzr)
  have hF9 := (hbx.block _ (blk_lt HF2.out)).trans HF2.out
  have Hfin := Lib.hid (HR.out _ ((Hb2.out.trans (hbx.mono Hb2.out.size)).setCell (p := ⟨w.heap.size + 1, 0, none⟩) (Nat.le_succ _) (.int .i64 (2)) |>.setCell (p := ⟨w.heap.size + 1, 1, none⟩) (Nat.le_succ _) (.int .i64 (0))))
  rw [show checkF u = (2, 0) from heq.out] at Hfin
  obtain ⟨k0, k1⟩ := cells_blk hF9
  have f0 : w9.frozen? ⟨w.heap.size + 1, 0, none⟩ = false := by simp [World.frozen?, hF9]
  have f1 : w9.frozen? ⟨w.heap.size + 1, 1, none⟩ = false := by simp [World.frozen?, hF9]
  have l9 := blk_lt hF9
  have HF9 := Lib.hid hF9
  clear hb9 hbx hF9
  go_wp2
  refine bodyPost_ret (v := (.agg #[.int .i64 ((2, 0)).1, .int .i64 ((2, 0)).2])) (res_Fault (by rfl) (by rfl) (cells_blk (T := 30) (by exact (blkp HF9.out)))) rfl ?_
  exact Hfin.out
 have hi0 : ¬ (10 : Int) < (u.globals.length : Int) := by omega
 by_cases hm1 : 10 < u.funcs.length
 ·have hi1 : (10 : Int) < (u.funcs.length : Int) := by omega
  have heq : Hid (checkF u = (2, 0)) := Lib.hid (by unfold checkF; rw [if_pos (.inr hm1)])
  clear hm1
  go_enter Tryz.func93, Tryz.ntmps93
  go_upto_region 1 with fail
  rw [HW2.out]
  obtain ⟨wr, hwr⟩ : ∃ wr, wr = W2 := ⟨_, rfl⟩
  have Hbr : Hid (Below W2.heap.size W2 wr) := Lib.hid (by subst hwr; exact Below.refl _ _)
  have hzr := Hbr.out.size
  rw [← hwr]
  rw [← hwr] at u0 u1 lU
  clear hwr
  go_wp2_with fail
  refine Fault_calls _ _ _ _ (fun w9 hb9 => ?_)
  have hbx : Below W2.heap.size W2 w9 := Hbr.out.trans (((by exact bl0 : Below wr.heap.size wr _).trans (hb9.mono (by first | exact Nat.le_refl _ | (simp; done) | (simp; omega)))).mono hzr)
  have hF9 := (hbx.block _ (blk_lt HF2.out)).trans HF2.out
  have Hfin := Lib.hid (HR.out _ ((Hb2.out.trans (hbx.mono Hb2.out.size)).setCell (p := ⟨w.heap.size + 1, 0, none⟩) (Nat.le_succ _) (.int .i64 (2)) |>.setCell (p := ⟨w.heap.size + 1, 1, none⟩) (Nat.le_succ _) (.int .i64 (0))))
  rw [show checkF u = (2, 0) from heq.out] at Hfin
  obtain ⟨k0, k1⟩ := cells_blk hF9
  have f0 : w9.frozen? ⟨w.heap.size + 1, 0, none⟩ = false := by simp [World.frozen?, hF9]
  have f1 : w9.frozen? ⟨w.heap.size + 1, 1, none⟩ = false := by simp [World.frozen?, hF9]
  have l9 := blk_lt hF9
  have HF9 := Lib.hid hF9
  clear hb9 hbx hF9
  go_wp2
  refine bodyPost_ret (v := (.agg #[.int .i64 ((2, 0)).1, .int .i64 ((2, 0)).2])) (res_Fault (by rfl) (by rfl) (cells_blk (T := 30) (by exact (blkp HF9.out)))) rfl ?_
  exact Hfin.out
 have hi1 : ¬ (10 : Int) < (u.funcs.length : Int) := by omega
 have hmany : ¬ (10 < u.globals.length ∨ 10 < u.funcs.length) := by omega
 have Hmany := Lib.hid hmany
 clear hmany
 go_enter Tryz.func93, Tryz.ntmps93
 go_upto_region 1 with fail
 rw [HW2.out]
 go_wp2
 clear u0 u1
 go_loopg [3, 4, 31] u.globals.length (fun gh s3 s4 s31 wr => ∃ (i : Nat) (sum : Int), i ≤ u.globals.length ∧ gh = u.globals.length - i ∧ s31 = .int .i64 (i : Int) ∧ s4 = .int .i64 sum ∧ 0 ≤ sum ∧ sum ≤ 200 ∧ Hid (globFrom u.globals (u.globals.length - i) i sum = globFrom u.globals u.globals.length 0 0) ∧ Hid (wr.ownsRow W2.heap.size 9 1 s3 ((u.globals.take i).map (·.name)).length (((u.globals.take i).map (·.name)).flatMap strCells)) ∧ Hid (Below W2.heap.size W2 wr))
 case atStart => exact ⟨0, 0, Nat.zero_le _, rfl, rfl, rfl, by omega, by omega, Lib.hid rfl, Lib.hid (World.ownsRow_nil _ _ _ _), Lib.hid (Below.refl _ _)⟩
 case round =>
  obtain ⟨i, sum, hi, rfl, rfl, rfl, hs0, hs1, Ht, Hn, Hbr⟩ := hrel
  have hzr := Hbr.out.size
  by_cases hlt : i < u.globals.length
  ·obtain ⟨b, off, g, v1, rfl, hb, e, h1, q0, q1, q2⟩ := Hg.out.global_at hlt
   have eg : g = u.globals[i] := by rw [List.getElem?_eq_getElem hlt] at e; exact (Option.some.inj e).symm
   obtain ⟨A1, c1, rfl, hm1, _, _⟩ := h1.cases_
   have Hbw := Lib.hid (Hb2.out.trans (Hbr.out.mono Hb2.out.size))
   have i1 : (0 : Int) ≤ (i : Int) := Int.natCast_nonneg _
   have i2 : (i : Int) < (u.globals.length : Int) := by omega
   have lb : b < wr.heap.size := by have := Hbw.out.size; omega
   have p0 := (Hbw.out.cell (p := ⟨b, off + i * 3, none⟩) hb).trans q0
   have p1 := (Hbw.out.cell (p := ⟨b, off + i * 3 + 1, none⟩) hb).trans q1
   have p2 := (Hbw.out.cell (p := ⟨b, off + i * 3 + 2, none⟩) hb).trans q2
   have Hst : Hid (globFrom u.globals u.globals.length 0 0 = _) := Lib.hid (Ht.out.symm.trans (globFrom_stepU sum hlt))
   have Hnext : Hid ((u.globals.take (i + 1)).map (·.name) = (u.globals.take i).map (·.name) ++ [u.globals[i].name]) := Lib.hid (by rw [List.take_succ_eq_append_getElem hlt, List.map_append]; rfl)
   rw [← eg] at Hst Hnext
   have hnl : ((u.globals.take i).map (·.name)).length ≤ 100 := by rw [List.length_map, List.length_take]; omega
   generalize (u.globals.take i).map (·.name) = nms at *
   have hgi := (HU.out.globals g (by rw [eg]; exact List.getElem_mem hlt)).2.1
   obtain ⟨A3, c3, hs3⟩ := own_slice Hn.out
   subst hs3
   have Hns := Lib.hid (SLstr_own Hn.out (Nat.le_refl _))
   have Hnl := Lib.hid hnl
   have hnlm : nms.length ≤ 100 := hnl
   have hab : wr.heap.size ≤ (wr.alloc (Obj.cells #[.string g.name, .int .i64 g.size, .slice A1 g.init.length c1] 167)).heap.size := by simp
   obtain ⟨W5, hW5⟩ : ∃ W5, W5 = wr.alloc (Obj.cells #[.string g.name, .int .i64 g.size, .slice A1 g.init.length c1] 167) := ⟨_, rfl⟩
   have Hb5 : Hid (Below wr.heap.size wr W5) := Lib.hid (by subst hW5; exact bl0)
   obtain ⟨m0, m1, m2⟩ : W5.cell? ⟨wr.heap.size, 0, none⟩ = some (.string g.name) ∧ W5.cell? ⟨wr.heap.size, 1, none⟩ = some (.int .i64 g.size) ∧ W5.cell? ⟨wr.heap.size, 2, none⟩ = some (.slice A1 g.init.length c1) := by
    subst hW5
    refine ⟨?_, ?_, ?_⟩ <;> simp
   have lW5 : wr.heap.size < W5.heap.size := by subst hW5; simp
   have HW5 := Lib.hid hW5.symm
   have Hbr5 := Lib.hid (Hbr.out.trans (Hb5.out.mono hzr))
   have hz5 := Hbr5.out.size
   have Hns5 := Lib.hid (Hns.out.up Hb5.out Hb5.out.size)
   have Hn5 : Hid (W5.ownsRow W2.heap.size 9 1 (.slice A3 nms.length c3) nms.length (nms.flatMap strCells)) := Lib.hid (by subst hW5; exact Hn.out.alloc _)
   clear q0 q1 q2 h1 eg e Hbr Hns hW5 hab hnl
   go_upto_region 8 with fail
   rw [HW5.out]
   have hbase5 : W2.heap.size ≤ W5.heap.size := hz5
   obtain ⟨gw, hgw⟩ : ∃ gw, gw = wr.heap.size := ⟨_, rfl⟩
   rw [← hgw]
   rw [← hgw] at m0 m1 m2 lW5
   have Hne : Hid (∀ j, (Value.slice A3 nms.length c3).ownBlock = some j → j < gw) := Lib.hid (fun j e => by rw [hgw]; exact (Hn.out.lt j e).2)
   clear hgw p0 p1 p2 lb Hb5 Hbw hzr HW5 Hn
   by_cases hgn : goodName g.name = false
   ·have heq : Hid (checkF u = (12, (i : Int))) := Lib.hid (check_glob Hmany.out (Hst.out.trans (if_pos hgn)) (by simp))
    go_wp2_with fail
    refine Name_calls _ _ _ ?_
    rw [hgn]
    go_wp2_with fail
    refine Fault_calls _ _ _ _ (fun w9 hb9 => ?_)
    have hbx : Below W2.heap.size W2 w9 := Hbr5.out.trans (((by exact bl0 : Below W5.heap.size W5 _).trans (hb9.mono (by first | exact Nat.le_refl _ | (simp; done) | (simp; omega)))).mono hz5)
    have hF9 := (hbx.block _ (blk_lt HF2.out)).trans HF2.out
    have Hfin := Lib.hid (HR.out _ ((Hb2.out.trans (hbx.mono Hb2.out.size)).setCell (p := ⟨w.heap.size + 1, 0, none⟩) (Nat.le_succ _) (.int .i64 (12)) |>.setCell (p := ⟨w.heap.size + 1, 1, none⟩) (Nat.le_succ _) (.int .i64 ((i : Int)))))
    rw [show checkF u = (12, (i : Int)) from heq.out] at Hfin
    obtain ⟨k0, k1⟩ := cells_blk hF9
    have f0 : w9.frozen? ⟨w.heap.size + 1, 0, none⟩ = false := by simp [World.frozen?, hF9]
    have f1 : w9.frozen? ⟨w.heap.size + 1, 1, none⟩ = false := by simp [World.frozen?, hF9]
    have l9 := blk_lt hF9
    have HF9 := Lib.hid hF9
    clear hb9 hbx hF9
    go_wp2
    refine bodyPost_ret (v := (.agg #[.int .i64 ((12, (i : Int))).1, .int .i64 ((12, (i : Int))).2])) (res_Fault (by rfl) (by rfl) (cells_blk (T := 30) (by exact (blkp HF9.out)))) rfl ?_
    exact Hfin.out
   have Hst2 := Lib.hid (Hst.out.trans (if_neg hgn))
   have hgn : goodName g.name = true := by simpa using hgn
   by_cases hhad : inN nms g.name = true
   ·have heq : Hid (checkF u = (7, (i : Int))) := Lib.hid (check_glob Hmany.out (Hst2.out.trans (if_pos hhad)) (by simp))
    go_wp2_with fail
    refine Name_calls _ _ _ ?_
    rw [hgn]
    go_wp2_with fail
    refine contStr_calls nms _ _ _ Hns5.out _ ?_
    rw [hhad]
    go_wp2_with fail
    refine Fault_calls _ _ _ _ (fun w9 hb9 => ?_)
    have hbx : Below W2.heap.size W2 w9 := Hbr5.out.trans (((by exact bl0 : Below W5.heap.size W5 _).trans (hb9.mono (by first | exact Nat.le_refl _ | (simp; done) | (simp; omega)))).mono hz5)
    have hF9 := (hbx.block _ (blk_lt HF2.out)).trans HF2.out
    have Hfin := Lib.hid (HR.out _ ((Hb2.out.trans (hbx.mono Hb2.out.size)).setCell (p := ⟨w.heap.size + 1, 0, none⟩) (Nat.le_succ _) (.int .i64 (7)) |>.setCell (p := ⟨w.heap.size + 1, 1, none⟩) (Nat.le_succ _) (.int .i64 ((i : Int)))))
    rw [show checkF u = (7, (i : Int)) from heq.out] at Hfin
    obtain ⟨k0, k1⟩ := cells_blk hF9
    have f0 : w9.frozen? ⟨w.heap.size + 1, 0, none⟩ = false := by simp [World.frozen?, hF9]
    have f1 : w9.frozen? ⟨w.heap.size + 1, 1, none⟩ = false := by simp [World.frozen?, hF9]
    have l9 := blk_lt hF9
    have HF9 := Lib.hid hF9
    clear hb9 hbx hF9
    go_wp2
    refine bodyPost_ret (v := (.agg #[.int .i64 ((7, (i : Int))).1, .int .i64 ((7, (i : Int))).2])) (res_Fault (by rfl) (by rfl) (cells_blk (T := 30) (by exact (blkp HF9.out)))) rfl ?_
    exact Hfin.out
   have Hst3 := Lib.hid (Hst2.out.trans (if_neg hhad))
   have hhad : inN nms g.name = false := by simpa using hhad
   by_cases hsz : g.size < 1 ∨ 200 < g.size
   ·have heq : Hid (checkF u = (3, (i : Int))) := Lib.hid (check_glob Hmany.out (Hst3.out.trans (if_pos hsz)) (by simp))
    have hd : decide (1 ≤ g.size ∧ g.size ≤ 200) = false := decide_eq_false (by omega)
    clear hsz
    go_wp2_with fail
    refine Name_calls _ _ _ ?_
    rw [hgn]
    go_wp2_with fail
    refine contStr_calls nms _ _ _ Hns5.out _ ?_
    rw [hhad]
    go_wp2_with fail
    refine Within_calls _ _ _ _ _ ?_
    rw [hd]
    go_wp2_with fail
    refine Fault_calls _ _ _ _ (fun w9 hb9 => ?_)
    have hbx : Below W2.heap.size W2 w9 := Hbr5.out.trans (((by exact bl0 : Below W5.heap.size W5 _).trans (hb9.mono (by first | exact Nat.le_refl _ | (simp; done) | (simp; omega)))).mono hz5)
    have hF9 := (hbx.block _ (blk_lt HF2.out)).trans HF2.out
    have Hfin := Lib.hid (HR.out _ ((Hb2.out.trans (hbx.mono Hb2.out.size)).setCell (p := ⟨w.heap.size + 1, 0, none⟩) (Nat.le_succ _) (.int .i64 (3)) |>.setCell (p := ⟨w.heap.size + 1, 1, none⟩) (Nat.le_succ _) (.int .i64 ((i : Int)))))
    rw [show checkF u = (3, (i : Int)) from heq.out] at Hfin
    obtain ⟨k0, k1⟩ := cells_blk hF9
    have f0 : w9.frozen? ⟨w.heap.size + 1, 0, none⟩ = false := by simp [World.frozen?, hF9]
    have f1 : w9.frozen? ⟨w.heap.size + 1, 1, none⟩ = false := by simp [World.frozen?, hF9]
    have l9 := blk_lt hF9
    have HF9 := Lib.hid hF9
    clear hb9 hbx hF9
    go_wp2
    refine bodyPost_ret (v := (.agg #[.int .i64 ((3, (i : Int))).1, .int .i64 ((3, (i : Int))).2])) (res_Fault (by rfl) (by rfl) (cells_blk (T := 30) (by exact (blkp HF9.out)))) rfl ?_
    exact Hfin.out
   have Hst4 := Lib.hid (Hst3.out.trans (if_neg hsz))
   have hd : decide (1 ≤ g.size ∧ g.size ≤ 200) = true := decide_eq_true (by omega)
   have hsz0 : 1 ≤ g.size := by omega
   have hsz1 : g.size ≤ 200 := by omega
   by_cases hin : g.size < (g.init.length : Int)
   ·have heq : Hid (checkF u = (9, (i : Int))) := Lib.hid (check_glob Hmany.out (Hst4.out.trans (if_pos hin)) (by simp))
    go_wp2_with fail
    refine Name_calls _ _ _ ?_
    rw [hgn]
    go_wp2_with fail
    refine contStr_calls nms _ _ _ Hns5.out _ ?_
    rw [hhad]
    go_wp2_with fail
    refine Within_calls _ _ _ _ _ ?_
    rw [hd]
    go_wp2_with fail
    refine Fault_calls _ _ _ _ (fun w9 hb9 => ?_)
    have hbx : Below W2.heap.size W2 w9 := Hbr5.out.trans (((by exact bl0 : Below W5.heap.size W5 _).trans (hb9.mono (by first | exact Nat.le_refl _ | (simp; done) | (simp; omega)))).mono hz5)
    have hF9 := (hbx.block _ (blk_lt HF2.out)).trans HF2.out
    have Hfin := Lib.hid (HR.out _ ((Hb2.out.trans (hbx.mono Hb2.out.size)).setCell (p := ⟨w.heap.size + 1, 0, none⟩) (Nat.le_succ _) (.int .i64 (9)) |>.setCell (p := ⟨w.heap.size + 1, 1, none⟩) (Nat.le_succ _) (.int .i64 ((i : Int)))))
    rw [show checkF u = (9, (i : Int)) from heq.out] at Hfin
    obtain ⟨k0, k1⟩ := cells_blk hF9
    have f0 : w9.frozen? ⟨w.heap.size + 1, 0, none⟩ = false := by simp [World.frozen?, hF9]
    have f1 : w9.frozen? ⟨w.heap.size + 1, 1, none⟩ = false := by simp [World.frozen?, hF9]
    have l9 := blk_lt hF9
    have HF9 := Lib.hid hF9
    clear hb9 hbx hF9
    go_wp2
    refine bodyPost_ret (v := (.agg #[.int .i64 ((9, (i : Int))).1, .int .i64 ((9, (i : Int))).2])) (res_Fault (by rfl) (by rfl) (cells_blk (T := 30) (by exact (blkp HF9.out)))) rfl ?_
    exact Hfin.out
   have Hst5 := Lib.hid (Hst4.out.trans (if_neg hin))
   by_cases hsum : 200 < sum + g.size
   ·have heq : Hid (checkF u = (10, (i : Int))) := Lib.hid (check_glob Hmany.out (Hst5.out.trans (if_pos hsum)) (by simp))
    go_wp2_with fail
    refine Name_calls _ _ _ ?_
    rw [hgn]
    go_wp2_with fail
    refine contStr_calls nms _ _ _ Hns5.out _ ?_
    rw [hhad]
    go_wp2_with fail
    refine Within_calls _ _ _ _ _ ?_
    rw [hd]
    go_wp2_with fail
    refine Fault_calls _ _ _ _ (fun w9 hb9 => ?_)
    have hbx : Below W2.heap.size W2 w9 := Hbr5.out.trans (((by exact bl0 : Below W5.heap.size W5 _).trans (hb9.mono (by first | exact Nat.le_refl _ | (simp; done) | (simp; omega)))).mono hz5)
    have hF9 := (hbx.block _ (blk_lt HF2.out)).trans HF2.out
    have Hfin := Lib.hid (HR.out _ ((Hb2.out.trans (hbx.mono Hb2.out.size)).setCell (p := ⟨w.heap.size + 1, 0, none⟩) (Nat.le_succ _) (.int .i64 (10)) |>.setCell (p := ⟨w.heap.size + 1, 1, none⟩) (Nat.le_succ _) (.int .i64 ((i : Int)))))
    rw [show checkF u = (10, (i : Int)) from heq.out] at Hfin
    obtain ⟨k0, k1⟩ := cells_blk hF9
    have f0 : w9.frozen? ⟨w.heap.size + 1, 0, none⟩ = false := by simp [World.frozen?, hF9]
    have f1 : w9.frozen? ⟨w.heap.size + 1, 1, none⟩ = false := by simp [World.frozen?, hF9]
    have l9 := blk_lt hF9
    have HF9 := Lib.hid hF9
    clear hb9 hbx hF9
    go_wp2
    refine bodyPost_ret (v := (.agg #[.int .i64 ((10, (i : Int))).1, .int .i64 ((10, (i : Int))).2])) (res_Fault (by rfl) (by rfl) (cells_blk (T := 30) (by exact (blkp HF9.out)))) rfl ?_
    exact Hfin.out
   have Hst6 := Lib.hid (Hst5.out.trans (if_neg hsum))
   go_wp2_with fail
   refine Name_calls _ _ _ ?_
   rw [hgn]
   go_wp2_with fail
   refine contStr_calls nms _ _ _ Hns5.out _ ?_
   rw [hhad]
   go_wp2_with fail
   refine Within_calls _ _ _ _ _ ?_
   rw [hd]
   go_wp2_with (at_builtin; refine app_str rfl _ _ rfl (v := .slice A3 nms.length c3) rfl (Hn5.out.alloc _) W5.heap.size g.name rfl (heap_alloc_new _ _) Hnl.out (by simp; omega) ?_)
   intro v7 w7 hown7 hg7 hat7
   have hown8 : w7.ownsRow W2.heap.size 9 1 v7 (nms ++ [g.name]).length ((nms ++ [g.name]).flatMap strCells) := by simpa using hown7
   have hlo := fun j (e : (Value.slice A3 nms.length c3).ownBlock = some j) => (Hn5.out.lt j e).1
   have hb7 := (Hbr5.out.alloc hz5 (Obj.cells #[.string g.name] 9)).trans ((Grew.of_grown hg7).below (B := W2.heap.size) (fun j hj e => by have := hlo j e; omega) (by simp; omega))
   have Hown8 := Lib.hid hown8
   have Hb7 := Lib.hid hb7
   have m7 : w7.cell? ⟨gw, 1, none⟩ = some (.int .i64 g.size) := hg7.cell (by rw [World.cell?_alloc_lt _ _ _ (show gw < W5.heap.size from lW5)]; exact m1) (fun e => Nat.lt_irrefl _ (Hne.out gw e.symm))
   have l7 : gw < w7.heap.size := by have := hg7.size; simp at this; omega
   clear hown7 hg7 hat7 hown8 hb7 hlo
   go_wp2
   go_roundg (u.globals.length - (i + 1))
   case measure => omega
   case rel => exact ⟨i + 1, sum + g.size, by omega, rfl, by go_num, by go_num, by omega, by omega, Lib.hid Hst6.out.symm, by rw [Hnext.out]; exact Hown8, Hb7⟩
  ·obtain rfl : i = u.globals.length := by omega
   have hz0 : globFrom u.globals u.globals.length 0 0 = (0, 0) := by
    have := Ht.out
    rw [Nat.sub_self, globFrom] at this
    exact this.symm
   have Hz0 := Lib.hid hz0
   have i2 : ¬ ((u.globals.length : Int) < (u.globals.length : Int)) := by omega
   have hl : ((u.globals.take u.globals.length).map (·.name)).length = u.globals.length := by simp
   rw [hl] at Hn
   obtain ⟨A3, c3, hs3⟩ := own_slice Hn.out
   subst hs3
   have Hn0 : Hid (wr.ownsRow W2.heap.size 9 1 (.slice A3 u.globals.length c3) (nmsF u 0).length ((nmsF u 0).flatMap strCells)) := Lib.hid (by
    rw [show nmsF u 0 = (u.globals.take u.globals.length).map (·.name) from by simp [nmsF], hl]
    exact Hn.out)
   clear hl
   obtain ⟨u0, u1⟩ := cells_blk ((Hbr.out.block _ (blk_lt HU2.out)).trans HU2.out)
   have lU5 : w.heap.size < wr.heap.size := by omega
   clear Hn Ht hz0 hs0 hs1
   go_wp2
   clear u0 u1
   go_loopg [3, 82] u.funcs.length (fun gh s3 s82 wx => ∃ i : Nat, i ≤ u.funcs.length ∧ gh = u.funcs.length - i ∧ s82 = .int .i64 (i : Int) ∧ Hid (fst0 ((headsF u).take i) = 0) ∧ Hid (wx.ownsRow W2.heap.size 9 1 s3 (nmsF u i).length ((nmsF u i).flatMap strCells)) ∧ Hid (Below W2.heap.size W2 wx))
   case atStart => exact ⟨0, Nat.zero_le _, rfl, rfl, Lib.hid rfl, Hn0, Hbr⟩
   case round =>
    obtain ⟨i, hi, rfl, rfl, Hz, Hn, Hbx⟩ := hrel
    clear Hn0 Hbr
    have hzx := Hbx.out.size
    by_cases hlt : i < u.funcs.length
    ·obtain ⟨b, off, vb, rfl, hb, hvb, q0, q1, q2, q3⟩ := Hf.out.fun_at hlt
     obtain ⟨bA, bc, rfl, _, _, hvb⟩ := hvb.cases_
     have Hbw := Lib.hid (Hb2.out.trans (Hbx.out.mono Hb2.out.size))
     have i1 : (0 : Int) ≤ (i : Int) := Int.natCast_nonneg _
     have i2 : (i : Int) < (u.funcs.length : Int) := by omega
     have lb : b < wr.heap.size := by have := Hbw.out.size; omega
     have p0 := (Hbw.out.cell (p := ⟨b, off + i * 4, none⟩) hb).trans q0
     have p1 := (Hbw.out.cell (p := ⟨b, off + i * 4 + 1, none⟩) hb).trans q1
     have p2 := (Hbw.out.cell (p := ⟨b, off + i * 4 + 2, none⟩) hb).trans q2
     have p3 := (Hbw.out.cell (p := ⟨b, off + i * 4 + 3, none⟩) hb).trans q3
     obtain ⟨u0, u1⟩ := cells_blk ((Hbx.out.block _ (blk_lt HU2.out)).trans HU2.out)
     have lU5 : w.heap.size < wr.heap.size := by have := blk_lt HU2.out; omega
     have Hyes : Hid (headF (inN (nmsF u i)) u.funcs[i] = 0 → fst0 ((headsF u).take (i + 1)) = 0) := Lib.hid fun h => fst0_snoc (headsF_at hlt) h Hz.out
     have Hno : Hid (headF (inN (nmsF u i)) u.funcs[i] ≠ 0 → checkF u = (headF (inN (nmsF u i)) u.funcs[i], (i : Int))) := Lib.hid fun h => check_head Hmany.out Hz0.out (headsF_at hlt) h Hz.out
     have Hnext := Lib.hid (nmsF_step hlt)
     have hnl : (nmsF u i).length ≤ 100 := by rw [nmsF_len (by omega)]; have := Hmany.out; omega
     have Hnl := Lib.hid hnl
     generalize nmsF u i = nms at *
     generalize u.funcs[i] = f at *
     obtain ⟨A3, c3, hs3⟩ := own_slice Hn.out
     subst hs3
     obtain ⟨W5, hW5⟩ : ∃ W5, W5 = (wr.alloc (Obj.cells #[.string f.name, .int .i64 f.params, .int .i64 f.regs, .slice bA f.blocks.length bc] 56)).alloc (Obj.cells #[.slice gA u.globals.length gc, .slice (some ⟨b, off, none⟩) u.funcs.length fc, .string f.name, .int .i64 f.params, .int .i64 f.regs, .slice bA f.blocks.length bc, .slice none 0 0] 171) := ⟨_, rfl⟩
     have Hb5 : Hid (Below wr.heap.size wr W5) := Lib.hid (by subst hW5; exact bl0)
     have HX5 : Hid (W5.heap[wr.heap.size]? = some (.cells #[.string f.name, .int .i64 f.params, .int .i64 f.regs, .slice bA f.blocks.length bc] 56 (0, 0))) := Lib.hid (by subst hW5; exact blk_alloc (heap_alloc_new _ _) _)
     have HY5 : Hid (W5.heap[wr.heap.size + 1]? = some (.cells #[.slice gA u.globals.length gc, .slice (some ⟨b, off, none⟩) u.funcs.length fc, .string f.name, .int .i64 f.params, .int .i64 f.regs, .slice bA f.blocks.length bc, .slice none 0 0] 171 (0, 0))) := Lib.hid (by
      subst hW5
      have := heap_alloc_new (wr.alloc (Obj.cells #[.string f.name, .int .i64 f.params, .int .i64 f.regs, .slice bA f.blocks.length bc] 56)) (Obj.cells #[.slice gA u.globals.length gc, .slice (some ⟨b, off, none⟩) u.funcs.length fc, .string f.name, .int .i64 f.params, .int .i64 f.regs, .slice bA f.blocks.length bc, .slice none 0 0] 171)
      simpa using this)
     have Hn5 : Hid (W5.ownsRow W2.heap.size 9 1 (.slice A3 nms.length c3) nms.length (nms.flatMap strCells)) := Lib.hid (by subst hW5; exact (Hn.out.alloc _).alloc _)
     have HW5 := Lib.hid hW5.symm
     have Hbr5 := Lib.hid (Hbx.out.trans (Hb5.out.mono hzx))
     have hz5 := Hbr5.out.size
     have Hns5 := Lib.hid (SLstr_own Hn5.out (Nat.le_refl _))
     have Hbl5 := Lib.hid (hvb.up (Hbw.out.trans (Hb5.out.mono Hbw.out.size)) (by have := Hbw.out.size; have := Hb5.out.size; omega : w.heap.size ≤ W5.heap.size))
     obtain ⟨c0, c1, c2, c3', c4, c5, c6⟩ := ckr_cells HY5.out
     have l5 := blk_lt HY5.out
     obtain ⟨gw, hgw⟩ : ∃ gw, gw = wr.heap.size := ⟨_, rfl⟩
     have Hne : Hid (∀ j, (Value.slice A3 nms.length c3).ownBlock = some j → j < gw) := Lib.hid (fun j e => by rw [hgw]; exact (Hn.out.lt j e).2)
     clear q0 q1 q2 q3 hvb hnl Hn hW5
     go_upto_region 28 with fail
     rw [HW5.out]
     rw [← hgw] at HX5 c0 c1 c2 c3' c4 c5 c6 l5 ⊢
     clear p0 p1 p2 p3 lb Hb5 u0 u1 lU5 HY5 hgw HW5 Hbw
     go_wp2_with fail
     refine head_calls f nms _ gA _ bA u.globals.length gc _ fc bc W5 Hns5.out Hbl5.out _ (fun w6 hb6 => ?_)
     have hX6 := (hb6.block _ (blk_lt HX5.out)).trans HX5.out
     have HX6 := Lib.hid hX6
     have Hn6 : Hid (w6.ownsRow W2.heap.size 9 1 (.slice A3 nms.length c3) nms.length (nms.flatMap strCells)) := Lib.hid (own_below Hn5.out hb6)
     have Hbr6 := Lib.hid (Hbr5.out.trans (hb6.mono hz5))
     have hz6 := Hbr6.out.size
     obtain ⟨x0, x1, x2, x3⟩ := fun_cells hX6
     have lx := blk_lt hX6
     clear hb6 hX6 c0 c1 c2 c3' c4 c5 c6 l5 Hn5 Hns5 Hbl5 Hbr5 HX5
     generalize headF (inN nms) f = e at *
     by_cases hv : e = 0
     ·have hvb : (e != 0) = false := by simp [hv]
      have hy := Lib.hid (Hyes.out hv)
      clear Hyes Hno hv
      go_wp2_with (at_builtin; refine app_str rfl _ _ rfl (v := .slice A3 nms.length c3) rfl (Hn6.out.alloc _) w6.heap.size f.name rfl (heap_alloc_new _ _) Hnl.out (by simp; omega) ?_)
      intro v7 w7 hown7 hg7 hat7
      have hown8 : w7.ownsRow W2.heap.size 9 1 v7 (nms ++ [f.name]).length ((nms ++ [f.name]).flatMap strCells) := by simpa using hown7
      have hlo := fun j (e : (Value.slice A3 nms.length c3).ownBlock = some j) => (Hn6.out.lt j e).1
      have hb7 := (Hbr6.out.alloc hz6 (Obj.cells #[.string f.name] 9)).trans ((Grew.of_grown hg7).below (B := W2.heap.size) (fun j hj e => by have := hlo j e; omega) (by simp; omega))
      have Hown8 := Lib.hid hown8
      have Hb7 := Lib.hid hb7
      clear hown7 hg7 hat7 hown8 hb7 hlo
      go_wp2
      go_roundg (u.funcs.length - (i + 1))
      case measure => omega
      case rel => exact ⟨i + 1, by omega, rfl, by go_num, hy, by rw [Hnext.out]; exact Hown8, Hb7⟩
     ·have hvb : (e != 0) = true := by simp [hv]
      have heq := Lib.hid (Hno.out hv)
      clear Hyes Hno hv
      go_wp2_with fail
      refine Fault_calls _ _ _ _ (fun w9 hb9 => ?_)
      have hbx : Below W2.heap.size W2 w9 := Hbr6.out.trans (((by exact bl0 : Below w6.heap.size w6 _).trans (hb9.mono (by first | exact Nat.le_refl _ | (simp; done) | (simp; omega)))).mono hz6)
      have hF9 := (hbx.block _ (blk_lt HF2.out)).trans HF2.out
      have Hfin := Lib.hid (HR.out _ ((Hb2.out.trans (hbx.mono Hb2.out.size)).setCell (p := ⟨w.heap.size + 1, 0, none⟩) (Nat.le_succ _) (.int .i64 (e)) |>.setCell (p := ⟨w.heap.size + 1, 1, none⟩) (Nat.le_succ _) (.int .i64 ((i : Int)))))
      rw [show checkF u = (e, (i : Int)) from heq.out] at Hfin
      obtain ⟨k0, k1⟩ := cells_blk hF9
      have f0 : w9.frozen? ⟨w.heap.size + 1, 0, none⟩ = false := by simp [World.frozen?, hF9]
      have f1 : w9.frozen? ⟨w.heap.size + 1, 1, none⟩ = false := by simp [World.frozen?, hF9]
      have l9 := blk_lt hF9
      have HF9 := Lib.hid hF9
      clear hb9 hbx hF9
      go_wp2
      refine bodyPost_ret (v := (.agg #[.int .i64 ((e, (i : Int))).1, .int .i64 ((e, (i : Int))).2])) (res_Fault (by rfl) (by rfl) (cells_blk (T := 30) (by exact (blkp HF9.out)))) rfl ?_
      exact Hfin.out
    ·obtain rfl : i = u.funcs.length := by omega
     have hh : fst0 (headsF u) = 0 := by have := Hz.out; rwa [← headsF_len u, List.take_length] at this
     have Hh := Lib.hid hh
     have i2 : ¬ ((u.funcs.length : Int) < (u.funcs.length : Int)) := by omega
     have Hfh : Hid (∀ (k : Nat) (h : k < u.funcs.length), (0 ≤ u.funcs[k].regs ∧ u.funcs[k].regs ≤ 100) ∧ u.funcs[k].blocks.length ≤ 40) := Lib.hid fun k h => head_facts (fst0_zero.1 hh _ (List.mem_of_getElem? (headsF_at h)))
     obtain ⟨u0, u1⟩ := cells_blk ((Hbx.out.block _ (blk_lt HU2.out)).trans HU2.out)
     have lU5 : w.heap.size < wr.heap.size := by have := blk_lt HU2.out; omega
     clear Hn Hz hh
     go_wp2
     clear u0 u1
     go_loopg [107] u.funcs.length (fun gh s107 wy => ∃ i : Nat, i ≤ u.funcs.length ∧ gh = u.funcs.length - i ∧ s107 = .int .i64 (i : Int) ∧ Hid (fst0 ((bodiesF u).take i) = 0) ∧ Hid (Below W2.heap.size W2 wy))
     case atStart => exact ⟨0, Nat.zero_le _, rfl, rfl, Lib.hid rfl, Hbx⟩
     case round =>
      obtain ⟨i, hi, rfl, rfl, Hz, Hby⟩ := hrel
      clear Hbx
      have hzx := Hby.out.size
      by_cases hlt : i < u.funcs.length
      ·obtain ⟨b, off, vb, rfl, hb, hvb, q0, q1, q2, q3⟩ := Hf.out.fun_at hlt
       obtain ⟨bA, bc, rfl, _, _, hvb⟩ := hvb.cases_
       have Hbw := Lib.hid (Hb2.out.trans (Hby.out.mono Hb2.out.size))
       have i1 : (0 : Int) ≤ (i : Int) := Int.natCast_nonneg _
       have i2 : (i : Int) < (u.funcs.length : Int) := by omega
       have lb : b < wr.heap.size := by have := Hbw.out.size; omega
       have p0 := (Hbw.out.cell (p := ⟨b, off + i * 4, none⟩) hb).trans q0
       have p1 := (Hbw.out.cell (p := ⟨b, off + i * 4 + 1, none⟩) hb).trans q1
       have p2 := (Hbw.out.cell (p := ⟨b, off + i * 4 + 2, none⟩) hb).trans q2
       have p3 := (Hbw.out.cell (p := ⟨b, off + i * 4 + 3, none⟩) hb).trans q3
       obtain ⟨u0, u1⟩ := cells_blk ((Hby.out.block _ (blk_lt HU2.out)).trans HU2.out)
       have lU5 : w.heap.size < wr.heap.size := by have := blk_lt HU2.out; omega
       have Hyes : Hid (bodyF u u.funcs[i] = 0 → fst0 ((bodiesF u).take (i + 1)) = 0) := Lib.hid fun h => fst0_snoc (bodiesF_at hlt) h Hz.out
       have Hno : Hid (bodyF u u.funcs[i] ≠ 0 → checkF u = (bodyF u u.funcs[i], (i : Int))) := Lib.hid fun h => check_body Hmany.out Hz0.out Hh.out (bodiesF_at hlt) h Hz.out
       obtain ⟨hrg, h40⟩ := Hfh.out i hlt
       generalize u.funcs[i] = f at *
       obtain ⟨W5, hW5⟩ : ∃ W5, W5 = (wr.alloc (Obj.cells #[.string f.name, .int .i64 f.params, .int .i64 f.regs, .slice bA f.blocks.length bc] 56)).alloc (Obj.cells #[.slice gA u.globals.length gc, .slice (some ⟨b, off, none⟩) u.funcs.length fc, .string f.name, .int .i64 f.params, .int .i64 f.regs, .slice bA f.blocks.length bc, .slice none 0 0] 171) := ⟨_, rfl⟩
       have Hb5 : Hid (Below wr.heap.size wr W5) := Lib.hid (by subst hW5; exact bl0)
       have HY5 : Hid (W5.heap[wr.heap.size + 1]? = some (.cells #[.slice gA u.globals.length gc, .slice (some ⟨b, off, none⟩) u.funcs.length fc, .string f.name, .int .i64 f.params, .int .i64 f.regs, .slice bA f.blocks.length bc, .slice none 0 0] 171 (0, 0))) := Lib.hid (by
        subst hW5
        have := heap_alloc_new (wr.alloc (Obj.cells #[.string f.name, .int .i64 f.params, .int .i64 f.regs, .slice bA f.blocks.length bc] 56)) (Obj.cells #[.slice gA u.globals.length gc, .slice (some ⟨b, off, none⟩) u.funcs.length fc, .string f.name, .int .i64 f.params, .int .i64 f.regs, .slice bA f.blocks.length bc, .slice none 0 0] 171)
        simpa using this)
       have HW5 := Lib.hid hW5.symm
       have Hbr5 := Lib.hid (Hby.out.trans (Hb5.out.mono hzx))
       have hz5 := Hbr5.out.size
       have Hbw5 := Lib.hid (Hbw.out.trans (Hb5.out.mono Hbw.out.size))
       have hzw := Hbw5.out.size
       have Hbl5 := Lib.hid (hvb.up Hbw5.out hzw)
       have Hf5 := Lib.hid (Hf.out.up Hbw5.out hzw)
       have Hw5 := Lib.hid (HW.out.up Hbw5.out hw0)
       obtain ⟨c0, c1, c2, c3', c4, c5, c6⟩ := ckr_cells HY5.out
       have l5 := blk_lt HY5.out
       obtain ⟨gw, hgw⟩ : ∃ gw, gw = wr.heap.size := ⟨_, rfl⟩
       have Hrg := Lib.hid hrg
       have H40 := Lib.hid h40
       clear q0 q1 q2 q3 hvb hW5 hrg h40
       go_upto_region 37 with fail
       rw [HW5.out]
       rw [← hgw] at c0 c1 c2 c3' c4 c5 c6 l5 ⊢
       clear p0 p1 p2 p3 lb Hb5 u0 u1 lU5 HY5 hgw HW5 Hbw
       go_wp2_with fail
       refine body_calls u f gA _ bA u.globals.length gc _ fc bc W5 Hw5.out Hrg.out H40.out Hf5.out Hbl5.out _ (fun w6 hb6 => ?_)
       have Hbr6 := Lib.hid (Hbr5.out.trans (hb6.mono hz5))
       have hz6 := Hbr6.out.size
       clear hb6 c0 c1 c2 c3' c4 c5 c6 l5 Hbl5 Hbr5
       generalize bodyF u f = e at *
       by_cases hv : e = 0
       ·have hvb : (e != 0) = false := by simp [hv]
        have hy := Lib.hid (Hyes.out hv)
        clear Hyes Hno hv
        go_wp2
        go_roundg (u.funcs.length - (i + 1))
        case measure => omega
        case rel => exact ⟨i + 1, by omega, rfl, by go_num, hy, Hbr6⟩
       ·have hvb : (e != 0) = true := by simp [hv]
        have heq := Lib.hid (Hno.out hv)
        clear Hyes Hno hv
        go_wp2_with fail
        refine Fault_calls _ _ _ _ (fun w9 hb9 => ?_)
        have hbx : Below W2.heap.size W2 w9 := Hbr6.out.trans (((by exact bl0 : Below w6.heap.size w6 _).trans (hb9.mono (by first | exact Nat.le_refl _ | (simp; done) | (simp; omega)))).mono hz6)
        have hF9 := (hbx.block _ (blk_lt HF2.out)).trans HF2.out
        have Hfin := Lib.hid (HR.out _ ((Hb2.out.trans (hbx.mono Hb2.out.size)).setCell (p := ⟨w.heap.size + 1, 0, none⟩) (Nat.le_succ _) (.int .i64 (e)) |>.setCell (p := ⟨w.heap.size + 1, 1, none⟩) (Nat.le_succ _) (.int .i64 ((i : Int)))))
        rw [show checkF u = (e, (i : Int)) from heq.out] at Hfin
        obtain ⟨k0, k1⟩ := cells_blk hF9
        have f0 : w9.frozen? ⟨w.heap.size + 1, 0, none⟩ = false := by simp [World.frozen?, hF9]
        have f1 : w9.frozen? ⟨w.heap.size + 1, 1, none⟩ = false := by simp [World.frozen?, hF9]
        have l9 := blk_lt hF9
        have HF9 := Lib.hid hF9
        clear hb9 hbx hF9
        go_wp2
        refine bodyPost_ret (v := (.agg #[.int .i64 ((e, (i : Int))).1, .int .i64 ((e, (i : Int))).2])) (res_Fault (by rfl) (by rfl) (cells_blk (T := 30) (by exact (blkp HF9.out)))) rfl ?_
        exact Hfin.out
      ·obtain rfl : i = u.funcs.length := by omega
       have hbz : fst0 (bodiesF u) = 0 := by have := Hz.out; rwa [← bodiesF_len u, List.take_length] at this
       have hce := Lib.hid (check_end Hmany.out Hz0.out Hh.out hbz)
       have i2 : ¬ ((u.funcs.length : Int) < (u.funcs.length : Int)) := by omega
       obtain ⟨u0, u1⟩ := cells_blk ((Hby.out.block _ (blk_lt HU2.out)).trans HU2.out)
       have lU5 : w.heap.size < wr.heap.size := by have := blk_lt HU2.out; omega
       have Hbw := Lib.hid (Hb2.out.trans (Hby.out.mono Hb2.out.size))
       have Hff := Lib.hid (Hf.out.up Hbw.out Hbw.out.size)
       clear Hz hbz
       go_wp2_with fail
       refine idxMain_calls u.funcs _ _ Hff.out _ (fun w6 hb6 => ?_)
       have Hbr6 := Lib.hid (Hby.out.trans (hb6.mono hzx))
       have hz6 := Hbr6.out.size
       obtain ⟨v0, v1⟩ := cells_blk ((Hbr6.out.block _ (blk_lt HU2.out)).trans HU2.out)
       have lU6 : w.heap.size < w6.heap.size := by have := blk_lt HU2.out; omega
       have Hbw6 := Lib.hid (Hb2.out.trans (Hbr6.out.mono Hb2.out.size))
       clear hb6 u0 u1 Hff Hbw
       cases hmi : mainIdx u.funcs with
       | none =>
         have heq : Hid (checkF u = (6, 0)) := Lib.hid (by rw [hce.out, hmi])
         clear hmi hce
         unfold idxZ
         go_wp2_with fail
         refine Fault_calls _ _ _ _ (fun w9 hb9 => ?_)
         have hbx : Below W2.heap.size W2 w9 := Hbr6.out.trans (((by exact bl0 : Below w6.heap.size w6 _).trans (hb9.mono (by first | exact Nat.le_refl _ | (simp; done) | (simp; omega)))).mono hz6)
         have hF9 := (hbx.block _ (blk_lt HF2.out)).trans HF2.out
         have Hfin := Lib.hid (HR.out _ ((Hb2.out.trans (hbx.mono Hb2.out.size)).setCell (p := ⟨w.heap.size + 1, 0, none⟩) (Nat.le_succ _) (.int .i64 (6)) |>.setCell (p := ⟨w.heap.size + 1, 1, none⟩) (Nat.le_succ _) (.int .i64 (0))))
         rw [show checkF u = (6, 0) from heq.out] at Hfin
         obtain ⟨k0, k1⟩ := cells_blk hF9
         have f0 : w9.frozen? ⟨w.heap.size + 1, 0, none⟩ = false := by simp [World.frozen?, hF9]
         have f1 : w9.frozen? ⟨w.heap.size + 1, 1, none⟩ = false := by simp [World.frozen?, hF9]
         have l9 := blk_lt hF9
         have HF9 := Lib.hid hF9
         clear hb9 hbx hF9
         go_wp2
         refine bodyPost_ret (v := (.agg #[.int .i64 ((6, 0)).1, .int .i64 ((6, 0)).2])) (res_Fault (by rfl) (by rfl) (cells_blk (T := 30) (by exact (blkp HF9.out)))) rfl ?_
         exact Hfin.out
       | some k =>
         have hkl : k < u.funcs.length := by
          unfold mainIdx at hmi
          exact (List.findIdx?_eq_some_iff_getElem.1 hmi).1
         have heq : Hid (checkF u = if 0 < u.funcs[k].params then (5, (k : Int)) else (0, 0)) := Lib.hid (by rw [hce.out, hmi]; simp [List.getElem?_eq_getElem hkl])
         obtain ⟨b, off, vb, rfl, hb, hvb, q0, q1, q2, q3⟩ := Hf.out.fun_at hkl
         have k1 : (0 : Int) ≤ (k : Int) := Int.natCast_nonneg _
         have k2 : (k : Int) < (u.funcs.length : Int) := by omega
         have p1 := (Hbw6.out.cell (p := ⟨b, off + k * 4 + 1, none⟩) hb).trans q1
         have lb6 : b < w6.heap.size := by have := Hbw6.out.size; omega
         clear hmi hce q0 q1 q2 q3 hvb
         unfold idxZ
         by_cases hp : 0 < u.funcs[k].params
         ·have heq : Hid (checkF u = (5, (k : Int))) := Lib.hid (by rw [heq.out, if_pos hp])
          go_wp2_with fail
          refine Fault_calls _ _ _ _ (fun w9 hb9 => ?_)
          have hbx : Below W2.heap.size W2 w9 := Hbr6.out.trans (((by exact bl0 : Below w6.heap.size w6 _).trans (hb9.mono (by first | exact Nat.le_refl _ | (simp; done) | (simp; omega)))).mono hz6)
          have hF9 := (hbx.block _ (blk_lt HF2.out)).trans HF2.out
          have Hfin := Lib.hid (HR.out _ ((Hb2.out.trans (hbx.mono Hb2.out.size)).setCell (p := ⟨w.heap.size + 1, 0, none⟩) (Nat.le_succ _) (.int .i64 (5)) |>.setCell (p := ⟨w.heap.size + 1, 1, none⟩) (Nat.le_succ _) (.int .i64 ((k : Int)))))
          rw [show checkF u = (5, (k : Int)) from heq.out] at Hfin
          obtain ⟨k0, k1⟩ := cells_blk hF9
          have f0 : w9.frozen? ⟨w.heap.size + 1, 0, none⟩ = false := by simp [World.frozen?, hF9]
          have f1 : w9.frozen? ⟨w.heap.size + 1, 1, none⟩ = false := by simp [World.frozen?, hF9]
          have l9 := blk_lt hF9
          have HF9 := Lib.hid hF9
          clear hb9 hbx hF9
          go_wp2
          refine bodyPost_ret (v := (.agg #[.int .i64 ((5, (k : Int))).1, .int .i64 ((5, (k : Int))).2])) (res_Fault (by rfl) (by rfl) (cells_blk (T := 30) (by exact (blkp HF9.out)))) rfl ?_
          exact Hfin.out
         ·have hFx := (Hbr6.out.block _ (blk_lt HF2.out)).trans HF2.out
          have Hfin := Lib.hid (HR.out _ ((Hbw6.out.setCell (p := ⟨w.heap.size + 1, 0, none⟩) (Nat.le_succ _) (.int .i64 0)).setCell (p := ⟨w.heap.size + 1, 1, none⟩) (Nat.le_succ _) (.int .i64 0)))
          rw [show checkF u = (0, 0) from by rw [heq.out, if_neg hp]] at Hfin
          obtain ⟨k0, k1'⟩ := cells_blk hFx
          have f0 : w6.frozen? ⟨w.heap.size + 1, 0, none⟩ = false := by simp [World.frozen?, hFx]
          have f1 : w6.frozen? ⟨w.heap.size + 1, 1, none⟩ = false := by simp [World.frozen?, hFx]
          have l9 := blk_lt hFx
          have HF9 := Lib.hid hFx
          clear hFx heq
          go_wp2
          refine bodyPost_ret (v := (.agg #[.int .i64 ((0, 0)).1, .int .i64 ((0, 0)).2])) (res_Fault (by rfl) (by rfl) (cells_blk (T := 30) (by exact (blkp HF9.out)))) rfl ?_
          exact Hfin.out
end Go.Proofs.YtdanebboiekieaaGreatDoor
