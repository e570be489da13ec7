/- The walks, part 8. -/
import Derived.Test.YtdanebboiekieaaGreatDoorP07
set_option linter.unusedSimpArgs false
set_option linter.unusedVariables false
set_option maxRecDepth 100000
set_option maxHeartbeats 16000000
namespace Go.Proofs.YtdanebboiekieaaGreatDoor
open Go.RowKit
theorem q0j {w : World} {b : Nat} {v0 v1 v2 v3 : Value} {T : TypeId} (h : w.heap[b]? = some (.cells #[v0, v1, v2, v3] T (0, 0))) :
 w.cell? ⟨b, 0, none⟩ = some v0 ∧ w.cell? ⟨b, 1, none⟩ = some v1 ∧ w.cell? ⟨b, 2, none⟩ = some v2 ∧ w.cell? ⟨b, 3, none⟩ = some v3 := by
 refine ⟨?_, ?_, ?_, ?_⟩ <;> (rw [qb h]; rfl)
theorem q1d {w : World} {b : Nat} {v0 v1 v2 v3 v4 v5 : Value} {T : TypeId} (h : w.heap[b]? = some (.cells #[v0, v1, v2, v3, v4, v5] T (0, 0))) :
 w.cell? ⟨b, 0, none⟩ = some v0 ∧ w.cell? ⟨b, 1, none⟩ = some v1 ∧ w.cell? ⟨b, 2, none⟩ = some v2 ∧ w.cell? ⟨b, 3, none⟩ = some v3 ∧ w.cell? ⟨b, 4, none⟩ = some v4 ∧ w.cell? ⟨b, 5, none⟩ = some v5 := by
 refine ⟨?_, ?_, ?_, ?_, ?_, ?_⟩ <;> (rw [qb h]; rfl)
def rowE (E : List (Int × Int)) (t : Nat) : List Int := (E.filter fun e => decide (e.2 = (t : Int))).map (·.1)
def tabE (n : Nat) (E : List (Int × Int)) : List (List Int) := (List.range n).map (rowE E)
def q3a (l : List UBlk) : List (List Int) := (List.range l.length).map fun t : Nat => qen l (t : Int)
theorem q2d (n : Nat) (E : List (Int × Int)) : (tabE n E).length = n := by simp [tabE]
theorem q92 {n : Nat} {E : List (Int × Int)} {t : Nat} (h : t < n) : atI (tabE n E) t = rowE E t := by
 unfold atI tabE;rw [List.getD_eq_getElem?_getD, List.getElem?_map, List.getElem?_range h];rfl
theorem qft (n : Nat) : tabE n [] = List.replicate n [] := by
 refine qib (by simp [q2d]) fun i hi => ?_;rw [q2d] at hi;rw [q92 hi];unfold atI rowE;simp [List.getD_eq_getElem?_getD, List.getElem?_replicate, hi]
theorem qjs (E : List (Int × Int)) (i : Int) (t u : Nat) : rowE (E ++ [(i, (t : Int))]) u = if u = t then rowE E u ++ [i] else rowE E u := by
 unfold rowE;rw [List.filter_append, List.map_append]
 by_cases h : u = t
 ·subst h; simp
 ·have : ¬ (t : Int) = (u : Int) := by omega
  simp [h, this]
theorem qd0 {n : Nat} {E : List (Int × Int)} {i : Int} {t : Nat} (h : t < n) : tabE n (E ++ [(i, (t : Int))]) = (tabE n E).set t (rowE E t ++ [i]) := by
 refine qib (by simp [q2d]) fun u hu => ?_;rw [q2d] at hu;rw [q92 hu, qhx (by rw [q2d]; exact h), q92 hu, qjs]
 by_cases e : u = t
 ·subst e; simp
 ·simp [e]
theorem qfs (l : List UBlk) : tabE l.length (qq l l.length) = q3a l := rfl
theorem qfm (E : List (Int × Int)) (t : Nat) : (rowE E t).length ≤ E.length := by
 unfold rowE;rw [List.length_map];exact List.length_filter_le _ _
theorem q79 {l : List UBlk} {i : Nat} (h : i < l.length) : qq l (i + 1) = qq l i ++ l[i].end_.to.map fun t => ((i : Int), t) := by
 rw [qq, List.getElem?_eq_getElem h]
theorem q5m {l : List UBlk} (h : ∀ b ∈ l, b.end_.to.length ≤ 2) : ∀ i, (qq l i).length ≤ 2 * i
 | 0 => by simp [qq]
 | i + 1 => by
   have ih := q5m h i;rw [qq, List.length_append]
   split
   ·simp; omega
   ·rename_i b hb;have := h b (List.mem_of_getElem? hb);rw [List.length_map];omega
theorem qdi (nm : ByteArray) (pr rg : Int) (l : List UBlk) (v : Value) (w : World) (h : rpBlk.SL w w.heap.size l v) (h40 : l.length ≤ 40) (hok : ∀ b ∈ l, b.end_.to.length ≤ 2 ∧ ∀ t ∈ b.end_.to, 0 ≤ t ∧ t < (l.length : Int)) (R : Ending -> World -> Prop)
 (hR : ∀ w' v', Below w.heap.size w w' -> rpInt.slice.SLF w' w.heap.size w'.heap.size (q3a l) v' -> R (.returned v') w') :
 Calls Tryz.prog 136 #[.agg #[.string nm, .int .i64 pr, .int .i64 rg, v]] w R := by
 obtain ⟨A, c, rfl, hmx, hcap, hs⟩ := h.cases_;obtain ⟨HR, Hs, Hok⟩ := lh3 hR hs hok;clear hR hs h hok;have hmk := qce (w.alloc (Obj.cells #[.string nm, .int .i64 pr, .int .i64 rg, .slice A l.length c] 56)) l.length (by omega);obtain ⟨g, hg⟩ := nmm (w.heap.size + 1);obtain ⟨W2, hW2⟩ := nmm ((w.alloc (Obj.cells #[.string nm, .int .i64 pr, .int .i64 rg, .slice A l.length c] 56)).alloc (.cells (List.replicate l.length (Value.slice none 0 0)).toArray 26));have hsz : (w.alloc (Obj.cells #[.string nm, .int .i64 pr, .int .i64 rg, .slice A l.length c] 56)).heap.size = g := by rw [hg]; simp
 have hblk2 : W2.heap[g]? = some (.cells (List.replicate l.length (Value.slice none 0 0)).toArray 26 (0, 0)) := by rw [hW2, <- hsz]; exact heap_alloc_new _ _
 rw [<- hW2, hsz] at hmk;have hb2 : Below w.heap.size w W2 := by rw [hW2]; exact bl0
 have hE2 : W2.heap[w.heap.size]? = some (.cells #[.string nm, .int .i64 pr, .int .i64 rg, .slice A l.length c] 56 (0, 0)) := by rw [hW2]; exact qf (heap_alloc_new _ _) _
 obtain ⟨Hb2, Hblk2, HE2⟩ := lh3 hb2 hblk2 hE2;have Htab2 : Hid (Tab W2 (g + 1) (List.replicate l.length (.slice none 0 0)) (tabE l.length (qq l 0))) := lh (by rw [qq, qft]; exact Tab.first);have hgw : w.heap.size < g := by omega
 obtain ⟨e0, e1, e2, e3⟩ := q0j hE2;have hlE := qa hE2;have hsz2 := hb2.size;clear hW2 hb2 hblk2 hE2 hg hsz
 go_enter Tryz.func136, Tryz.ntmps136
 go_wp2;clear e0 e1 e2 e3 hlE
 go_loopg [15] l.length (fun gh s15 wr => ∃ (i : Nat) (V : List Value), i ≤ l.length ∧ gh = l.length - i ∧ s15 = .int .i64 (i : Int) ∧ Hid (Tab wr (g + 1) V (tabE l.length (qq l i))) ∧ Hid (Below w.heap.size w wr) ∧ Hid (wr.heap[g]? = some (.cells V.toArray 26 (0, 0))))
 case atStart => exact ⟨0, _, Nat.zero_le _, rfl, rfl, Htab2, Hb2, Hblk2⟩
 case round =>
  obtain ⟨i, V, hi, rfl, rfl, Htab, Hb, Hblk⟩ := hrel;clear Htab2 Hb2 Hblk2 HE2 hmk;have hz := Hb.out.size
  by_cases hlt : i < l.length
  ·obtain ⟨b, off, vp, vl, vt, rfl, hb, hp, hl, ht, q0, q1, q2, q3, q4, q5⟩ := Hs.out.blk_at hlt;obtain ⟨Ap, cp, rfl, _, _, hp⟩ := hp.cases_;obtain ⟨Al, cl, rfl, _, _, hl⟩ := hl.cases_;obtain ⟨At, ct, rfl, _, _, ht⟩ := ht.cases_;have i1 := nnn i;have i2 : (i : Int) < (l.length : Int) := by omega
   have lb : b < wr.heap.size := by omega
   have r0 := (Hb.out.cell (p := ⟨b, off + i * 6, none⟩) hb).trans q0;have r1 := (Hb.out.cell (p := ⟨b, off + i * 6 + 1, none⟩) hb).trans q1;have r2 := (Hb.out.cell (p := ⟨b, off + i * 6 + 2, none⟩) hb).trans q2;have r3 := (Hb.out.cell (p := ⟨b, off + i * 6 + 3, none⟩) hb).trans q3;have r4 := (Hb.out.cell (p := ⟨b, off + i * 6 + 4, none⟩) hb).trans q4;have r5 := (Hb.out.cell (p := ⟨b, off + i * 6 + 5, none⟩) hb).trans q5;have Hto := lh (Hok.out _ (List.getElem_mem hlt));have Hst : Hid (qq l (i + 1) = qq l i ++ l[i].end_.to.map fun t => ((i : Int), t)) := lh (q79 hlt);have Helen := lh (q5m (l := l) (fun b hb => (Hok.out b hb).1) i);have Hti := lh ht;generalize l[i].end_.to = ts at *;generalize l[i] = bk at *;obtain ⟨W3, hW3⟩ := nmm (wr.alloc (Obj.cells #[.slice Ap bk.phis.length cp, .slice Al bk.list.length cl, .int .i64 bk.end_.kind, .bool bk.end_.on.reg, .int .i64 bk.end_.on.n, .slice At ts.length ct] 68));have hbw : Below wr.heap.size wr W3 := by subst hW3; exact bl0
   have hB3 := Hb.out.trans (hbw.mono hz);have hX3 : W3.heap[wr.heap.size]? = some (.cells #[.slice Ap bk.phis.length cp, .slice Al bk.list.length cl, .int .i64 bk.end_.kind, .bool bk.end_.on.reg, .int .i64 bk.end_.on.n, .slice At ts.length ct] 68 (0, 0)) := by subst hW3; exact heap_alloc_new _ _
   have hV3 := (hbw.block _ (qa Hblk.out)).trans Hblk.out;have HT3 := lh (Htab.out.keep (fun k _ hl => hbw.block k hl));obtain ⟨HB3, HV3⟩ := lh2 hB3 hV3;have Hts3 := lh (Hti.out.up hB3 hB3.size);have HW3 := lh hW3.symm;have hlX := qa hX3;obtain ⟨x0, x1, x2, x3, x4, x5⟩ := q1d hX3;have hgsz : g < wr.heap.size := qa Hblk.out;have HE3 : Hid (tabE l.length (qq l i ++ (ts.take 0).map fun t => ((i : Int), t)) = tabE l.length (qq l i)) := lh (by simp);clear Htab Hb Hblk hbw hB3 hV3 hX3 hW3 hp hl ht q0 q1 q2 q3 q4 q5
   go_upto_region 5 with fail
   rw [HW3.out];go_wp2;clear r0 r1 r2 r3 r4 r5 x0 x1 x2 x3 x4 x5 hlX lb HW3
   go_loopg [24] ts.length (fun gh s24 wx => ∃ (j : Nat) (V' : List Value), j ≤ ts.length ∧ gh = ts.length - j ∧ s24 = .int .i64 (j : Int) ∧ Hid (Tab wx (g + 1) V' (tabE l.length (qq l i ++ (ts.take j).map fun t => ((i : Int), t)))) ∧ Hid (Below w.heap.size w wx) ∧ Hid (wx.heap[g]? = some (.cells V'.toArray 26 (0, 0))))
   case atStart => exact ⟨0, V, Nat.zero_le _, rfl, rfl, by rw [HE3.out]; exact HT3, HB3, HV3⟩
   case round =>
    obtain ⟨j, V', hj, rfl, rfl, Htab6, Hb6, HblkV6⟩ := hrel;clear HT3 HB3 HV3 HE3;have hz6 := Hb6.out.size
    by_cases hlj : j < ts.length
    ·obtain ⟨bt, ot, rfl, hbt, q0⟩ := Hti.out.int_at hlj;have p0 := (Hb6.out.cell (p := ⟨bt, ot + j, none⟩) hbt).trans q0;have hgd : ts.getD j 0 = ts[j] := by rw [List.getD_eq_getElem?_getD, List.getElem?_eq_getElem hlj]; rfl
     obtain ⟨t, htt, htn⟩ : ∃ t : Nat, ts.getD j 0 = (t : Int) ∧ t < l.length := by
      have := Hto.out.2 ts[j] (List.getElem_mem hlj);exact ⟨ts[j].toNat, by rw [hgd]; omega, by omega⟩
     have Hm : Hid (tabE l.length (qq l i ++ (ts.take (j + 1)).map fun t => ((i : Int), t)) = (tabE l.length (qq l i ++ (ts.take j).map fun t => ((i : Int), t))).set t (rowE (qq l i ++ (ts.take j).map fun t => ((i : Int), t)) t ++ [(i : Int)])) := lh (by
      rw [List.take_succ_eq_append_getElem hlj, List.map_append, <- List.append_assoc, <- qd0 htn, <- htt, hgd];rfl)
     have hEl : (qq l i ++ (ts.take j).map fun t => ((i : Int), t)).length ≤ 100 := by
      rw [List.length_append, List.length_map, List.length_take];have := Helen.out;have := Hto.out.1;omega
     have hfw : (rowE (qq l i ++ (ts.take j).map fun t => ((i : Int), t)) t).length ≤ 100 := Nat.le_trans (qfm _ _) hEl;rw [htt] at p0;have hTL := q2d l.length (qq l i ++ (ts.take j).map fun t => ((i : Int), t));have hVl : t < V'.length := by rw [Htab6.out.len, hTL]; exact htn
     have hkT : t < (tabE l.length (qq l i ++ (ts.take j).map fun t => ((i : Int), t))).length := by rw [hTL]; exact htn
     have ho := Htab6.out.own t hkT;rw [q92 htn] at ho
     have q2 : wr.cell? ⟨g, t, none⟩ = some (atT V' t) := by
      rw [qb HblkV6.out];unfold atT;rw [List.getD_eq_getElem?_getD, List.getElem?_eq_getElem hVl];simp [hVl]
     obtain ⟨A6, c6, hs6⟩ := qj ho;have n1 := Htab6.out.not hkT HblkV6.out (by decide);generalize rowE (qq l i ++ (ts.take j).map fun t => ((i : Int), t)) t = X at *;have hpush := fun (W1 : World) (hk1 : ∀ k, g + 1 ≤ k -> k < wr.heap.size -> W1.heap[k]? = wr.heap[k]?) (w' : World) (v' : Value) (h1 : w'.ownsRow (g + 1) 3 1 v' (X ++ [(i : Int)]).length ((X ++ [(i : Int)]).flatMap qh)) => (Htab6.out.keep hk1).push (w' := w') hkT h1;have hlo := fun j (e : (atT V' t).ownBlock = some j) => (Htab6.out.lt hkT e).1;rw [hs6] at hlo;have Hlo := lh hlo;rw [hs6] at q2 ho n1 hpush;obtain ⟨Ho, Hpush, Hn, HVl, Hfw⟩ := lh5 ho hpush n1 hVl hfw;have lG := qa HblkV6.out;have t1 := nnn t;have t2 : (t : Int) < (l.length : Int) := by omega
     have j1 := nnn j;have j2 : (j : Int) < (ts.length : Int) := by omega
     have lbt : bt < wr.heap.size := by omega
     clear hTL ho hpush n1 hVl hs6 hkT hfw hEl q0 hgd hlo;have Hbt := lh hbt;clear hbt;have f2 := fzz HblkV6.out t;have Hal := lh (show ∀ k, g + 1 ≤ k -> k < wr.heap.size -> (wr.alloc (Obj.cells #[.int .i64 (i : Int)] 3)).heap[k]? = wr.heap[k]? from fun k _ hl => (by exact bl0 : Below wr.heap.size wr (wr.alloc (Obj.cells #[.int .i64 (i : Int)] 3))).block k hl);have Hbal := lh (Hb6.out.alloc hz6 (Obj.cells #[.int .i64 (i : Int)] 3));have hgr : g + 1 ≤ (wr.alloc (Obj.cells #[.int .i64 (i : Int)] 3)).heap.size := by simp; omega
     go_wp2_with (at_builtin; refine qae rfl _ _ rfl (v := .slice A6 X.length c6) rfl (Ho.out.alloc _) wr.heap.size (i : Int) rfl (heap_alloc_new _ _) Hfw.out hgr ?_)
     intro v7 w7 hown7 hg7 hat7;have hown8 : w7.ownsRow (g + 1) 3 1 v7 (X ++ [(i : Int)]).length ((X ++ [(i : Int)]).flatMap qh) := by simpa using hown7
     clear hown7;have Htab7 := Hpush.out _ Hal.out _ _ hown8 hg7 (by rw [show (wr.alloc (Obj.cells #[.int .i64 (i : Int)] 3)).heap.size = wr.heap.size + 1 from by simp]; exact hat7);have hV7 := (hg7.block _ (by simp; omega) Hn.out).trans (qf HblkV6.out _);have hb7 := Hbal.out.trans ((Grew.of_grown hg7).below (B := w.heap.size) (fun j hj e => by have := Hlo.out j e; omega) (by simp; omega));obtain ⟨A7, c7, rfl⟩ := qj hown8;have q7 : w7.cell? ⟨g, t, none⟩ = some (.slice A6 X.length c6) := hg7.cell (by rw [World.cell?_alloc_lt _ _ _ (show g < wr.heap.size from lG)]; exact q2) Hn.out;generalize (X ++ [(i : Int)]).length = N7 at *;obtain ⟨HV7, Hb7, HT7⟩ := lh3 hV7 hb7 Htab7;have f7 := fzz hV7 t;have l7 : g < w7.heap.size := qa hV7;clear hown8 hg7 hat7 Htab7 hV7 hb7 q2 f2 lG hgr Hlo Hpush Hal Hbal p0;go_wp2
     go_roundg (ts.length - (j + 1))
     case measure => omega
     case rel =>
      refine ⟨j + 1, V'.set t (.slice A7 N7 c7), by omega, rfl, by go_num, ?_, lh (Hb7.out.setCell (p := ⟨g, t, none⟩) (by show w.heap.size ≤ g; omega) _), lh ?_⟩
      ·rw [Hm.out];exact lh (HT7.out.keep (fun k' h1 _ => Below.heap_setCell _ _ _ _ (by show k' ≠ g; omega)))
      ·rw [q0h HV7.out, List.setIfInBounds_toArray]
    ·obtain rfl : j = ts.length := by omega
     have j2 : ¬ ((ts.length : Int) < (ts.length : Int)) := by omega
     have HTn : Hid (Tab wr (g + 1) V' (tabE l.length (qq l (i + 1)))) := lh (by rw [Hst.out]; have := Htab6.out; rwa [List.take_length] at this);clear Htab6;go_wp2
     go_roundg (l.length - (i + 1))
     case measure => omega
     case rel => exact ⟨i + 1, V', by omega, rfl, by go_num, HTn, Hb6, HblkV6⟩
  ·obtain rfl : i = l.length := by omega
   have i2 : ¬ ((l.length : Int) < (l.length : Int)) := by omega
   have hsl := Htab.out.SLF (b := w.heap.size) Hblk.out (by omega) (by omega) (by rw [q2d]; unfold maxLen; omega);rw [q2d] at hsl;have Hfin := lh (HR.out _ _ Hb.out (by rw [<- qfs]; exact hsl));clear hsl;go_wp2;exact Hfin.out
def ends (f : UFun) : List Int := f.blocks.map fun b => endF f.blocks.length f.regs b.end_
def blksF (u : Unt) (f : UFun) : List Int := f.blocks.mapIdx fun k b => blkF u f k b
theorem ql2 {u : Unt} {f : UFun} (h : fst0 (ends f) ≠ 0) : bodyF u f = fst0 (ends f) := by unfold bodyF; exact if_pos h
theorem qmw {u : Unt} {f : UFun} (h : fst0 (ends f) = 0) : bodyF u f = fst0 (blksF u f) := by unfold bodyF; exact if_neg (fun hn => hn h)
theorem qia {f : UFun} {i : Nat} (h : i < f.blocks.length) : (ends f)[i]? = some (endF f.blocks.length f.regs f.blocks[i].end_) := by
 unfold ends;rw [List.getElem?_map, List.getElem?_eq_getElem h];rfl
theorem qes {u : Unt} {f : UFun} {i : Nat} (h : i < f.blocks.length) : (blksF u f)[i]? = some (blkF u f i f.blocks[i]) := by
 unfold blksF;rw [List.getElem?_mapIdx, List.getElem?_eq_getElem h];rfl
theorem qn4 {f : UFun} (h : fst0 (ends f) = 0) : ∀ b ∈ f.blocks, b.end_.to.length ≤ 2 ∧ ∀ t ∈ b.end_.to, 0 ≤ t ∧ t < (f.blocks.length : Int) := by
 intro b hb;rw [fst0_zero] at h;have he := h _ (List.mem_map.2 ⟨b, hb, rfl⟩);refine ⟨?_, fun t ht => ?_⟩
 ·unfold endF at he
  split at he
  ·simp at he
  split at he
  ·simp at he
  omega
 ·have := (q68 he).1 t ht;omega
theorem qlc {f : UFun} : (ends f).length = f.blocks.length := by simp [ends]
theorem qi3 {u : Unt} {f : UFun} : (blksF u f).length = f.blocks.length := by simp [blksF]
theorem qht {f : UFun} {k : Nat} (h : k < f.blocks.length) : (q3a f.blocks).getD k [] = qen f.blocks k := by
 unfold q3a;rw [List.getD_eq_getElem?_getD, List.getElem?_map, List.getElem?_range h];rfl
theorem q6y (l : List UBlk) : (q3a l).length = l.length := by simp [q3a]
theorem qnk {f : UFun} {k : Nat} (h : k < f.blocks.length) (p : UPhi) : phiG f.regs (q3a f.blocks) k p = phiF f k p := by
 unfold phiG phiF;rw [qht h]
def phisF (f : UFun) (k : Nat) (b : UBlk) : List Int := b.phis.map (phiF f k)
def inssF (u : Unt) (f : UFun) (b : UBlk) : List Int := b.list.map (insF u f.regs)
theorem qdm (u : Unt) (f : UFun) (k : Nat) (b : UBlk) : blkF u f k b = if fst0 (phisF f k b) = 0 then fst0 (inssF u f b) else fst0 (phisF f k b) := by
 unfold blkF phisF inssF;exact q5p _ _
theorem qgc (u : Unt) (f : UFun) (gA fA bA : Option Addr) (gn gc fn fc bc : Nat) (w : World) (hW : Ways w) (hrg : 0 ≤ f.regs ∧ f.regs ≤ 100) (h40 : f.blocks.length ≤ 40)
 (hf : rpFun.SL w w.heap.size u.funcs (.slice fA fn fc)) (hb : rpBlk.SL w w.heap.size f.blocks (.slice bA f.blocks.length bc)) (R : Ending -> World -> Prop) (hR : ∀ w', Below w.heap.size w w' -> R (.returned (.int .i64 (bodyF u f))) w') :
 Calls Tryz.prog 125 #[.agg #[.slice gA gn gc, .slice fA fn fc, .string f.name, .int .i64 f.params, .int .i64 f.regs, .slice bA f.blocks.length bc, .slice none 0 0]] w R := by
 obtain ⟨HR, Hf, Hb, HW⟩ := lh4 hR hf hb hW;have hI : Hid (I64 f.regs) := lh (by unfold I64; omega);have hlo : -9223372036854775807 ≤ f.regs := by omega
 have hw0 := hW.1;have hml : f.blocks.length ≤ maxLen := by unfold maxLen; omega
 obtain ⟨W1, hW1⟩ := nmm (w.alloc (Obj.cells #[.slice gA gn gc, .slice fA fn fc, .string f.name, .int .i64 f.params, .int .i64 f.regs, .slice bA f.blocks.length bc, .slice none 0 0] 171));have HC1 : Hid (W1.heap[w.heap.size]? = some (.cells #[.slice gA gn gc, .slice fA fn fc, .string f.name, .int .i64 f.params, .int .i64 f.regs, .slice bA f.blocks.length bc, .slice none 0 0] 171 (0, 0))) := lh (by subst hW1; exact heap_alloc_new _ _);have Hb1 : Hid (Below w.heap.size w W1) := lh (by subst hW1; exact bl0);have hs1 : W1.heap.size = w.heap.size + 1 := by subst hW1; simp
 have HW1 := lh hW1.symm;clear hR hf hb hW hW1;obtain ⟨c0, c1, c2, c3, c4, c5, c6⟩ := qr HC1.out;have lc := qa HC1.out
 go_enter Tryz.func125, Tryz.ntmps125
 go_upto_region 1 with fail
 rw [HW1.out];go_wp2;clear c0 c1 c2 c3 c4 c5 c6
 go_loopg [18] f.blocks.length (fun gh s18 wr => ∃ i : Nat, i ≤ f.blocks.length ∧ gh = f.blocks.length - i ∧ s18 = .int .i64 (i : Int) ∧ Hid (fst0 ((ends f).take i) = 0) ∧ Hid (Below W1.heap.size W1 wr))
 case atStart => exact ⟨0, Nat.zero_le _, rfl, rfl, lh rfl, lh (Below.refl _ _)⟩
 case round =>
  obtain ⟨i, hi, rfl, rfl, Hz, Hbr⟩ := hrel;have hzr := Hbr.out.size
  by_cases hlt : i < f.blocks.length
  ·obtain ⟨b, off, vp, vl, vt, rfl, hb, hp, hl, ht, q0, q1, q2, q3, q4, q5⟩ := Hb.out.blk_at hlt;obtain ⟨Ap, cp, rfl, _, _, hp⟩ := hp.cases_;obtain ⟨Al, cl, rfl, _, _, hl⟩ := hl.cases_;obtain ⟨At, ct, rfl, _, _, ht⟩ := ht.cases_;have Hbw := lh (Hb1.out.trans (Hbr.out.mono (by omega)));have i1 := nnn i;have i2 : (i : Int) < (f.blocks.length : Int) := by omega
   have lb : b < wr.heap.size := by omega
   have r0 := (Hbw.out.cell (p := ⟨b, off + i * 6, none⟩) hb).trans q0;have r1 := (Hbw.out.cell (p := ⟨b, off + i * 6 + 1, none⟩) hb).trans q1;have r2 := (Hbw.out.cell (p := ⟨b, off + i * 6 + 2, none⟩) hb).trans q2;have r3 := (Hbw.out.cell (p := ⟨b, off + i * 6 + 3, none⟩) hb).trans q3;have r4 := (Hbw.out.cell (p := ⟨b, off + i * 6 + 4, none⟩) hb).trans q4;have r5 := (Hbw.out.cell (p := ⟨b, off + i * 6 + 5, none⟩) hb).trans q5;obtain ⟨m0, m1, m2, m3, m4, m5, m6⟩ := qr ((Hbr.out.block _ lc).trans HC1.out);have lcr : w.heap.size < wr.heap.size := by omega
   have Hyes : Hid (endF f.blocks.length f.regs f.blocks[i].end_ = 0 -> fst0 ((ends f).take (i + 1)) = 0) := lh fun h => q3e (qia hlt) h Hz.out
   have Hno : Hid (endF f.blocks.length f.regs f.blocks[i].end_ ≠ 0 -> bodyF u f = endF f.blocks.length f.regs f.blocks[i].end_) := lh fun h => by
    have e := q5q (qia hlt) h Hz.out;rw [ql2 (by rw [e]; exact h), e]
   generalize f.blocks[i] = bk at *;have HWr := lh (HW.out.up Hbw.out hw0);have Htr := lh (ht.up Hbw.out Hbw.out.size);clear hp hl ht q0 q1 q2 q3 q4 q5
   go_wp2_with fail
   refine qi9 gA fA _ none gn gc fn fc f.blocks.length bc 0 0 f.name f.params f.regs bk.end_ _ hI.out hlo hml _ (HWr.out.up (by exact bl0) (by omega)) (Htr.out.up (by exact bl0) (by simp)) _ (fun w5 hb5 => ?_);have Hb5 := lh (Hbr.out.trans (((by exact bl0 : Below wr.heap.size wr _).trans (hb5.mono (by simp))).mono hzr));clear hb5;generalize endF f.blocks.length f.regs bk.end_ = e at *
   by_cases hv : e = 0
   ·have hvb : (e != 0) = false := by simp [hv]
    have hy := lh (Hyes.out hv);clear Hyes Hno;go_wp2
    go_roundg (f.blocks.length - (i + 1))
    case measure => omega
    case rel => exact ⟨i + 1, by omega, rfl, by go_num, hy, Hb5⟩
   ·have hvb : (e != 0) = true := by simp [hv]
    have hy := lh (Hno.out hv);have Hfin := lh (HR.out _ (Hb1.out.trans (Hb5.out.mono Hb1.out.size)));rw [hy.out] at Hfin;clear Hyes Hno;go_wp2;exact Hfin.out
  ·obtain rfl : i = f.blocks.length := by omega
   have i2 : ¬ ((f.blocks.length : Int) < (f.blocks.length : Int)) := by omega
   obtain ⟨m0, m1, m2, m3, m4, m5, m6⟩ := qr ((Hbr.out.block _ lc).trans HC1.out);have lcr : w.heap.size < wr.heap.size := by omega
   have hz0 : fst0 (ends f) = 0 := by have := Hz.out; rwa [<- qlc (f := f), List.take_length] at this
   have hto := qn4 hz0;have HF : Hid (∀ w', Below w.heap.size w w' -> R (.returned (.int .i64 (fst0 (blksF u f)))) w') := lh (by rw [<- qmw hz0]; exact HR.out);have Hbw := lh (Hb1.out.trans (Hbr.out.mono (by omega)));have HCr := lh ((Hbr.out.block _ lc).trans HC1.out);clear HR Hz hz0
   go_wp2_with fail
   refine qdi f.name f.params f.regs f.blocks _ _ (Hb.out.up Hbw.out Hbw.out.size) h40 hto _ (fun w2 v2 hb2 hs2 => ?_);obtain ⟨A2, c2, rfl, _, _, hs2⟩ := hs2.cases_;have hC2 := (hb2.block _ lcr).trans HCr.out;have hs22 := hb2.size;obtain ⟨W3, hW3⟩ := nmm (w2.setCell ⟨w.heap.size, 6, none⟩ (.slice A2 (q3a f.blocks).length c2));have hb23 : Below w.heap.size w W3 := by subst hW3; exact (Hbw.out.trans (hb2.mono Hbw.out.size)).setCell (p := ⟨w.heap.size, 6, none⟩) (Nat.le_refl _) _
   have hC3 : W3.heap[w.heap.size]? = some (.cells #[.slice gA gn gc, .slice fA fn fc, .string f.name, .int .i64 f.params, .int .i64 f.regs, .slice bA f.blocks.length bc, .slice A2 (q3a f.blocks).length c2] 171 (0, 0)) := by
    subst hW3;rw [q0h hC2];rfl
   have hs3 : W3.heap.size = w2.heap.size := by subst hW3; simp [World.setCell]
   have hah3 : rpInt.slice.SL W3 W3.heap.size (q3a f.blocks) (.slice A2 (q3a f.blocks).length c2) := by
    rw [hs3];subst hW3;exact (hs2.setCell ⟨w.heap.size, 6, none⟩ (by show w.heap.size < wr.heap.size; exact lcr) _).SL
   obtain ⟨HB3, HC3, Hah3⟩ := lh3 hb23 hC3 hah3;have HW3 := lh hW3.symm;have k6 : w2.cell? ⟨w.heap.size, 6, none⟩ = some (.slice none 0 0) := cqq hC2;have f6 := fzz hC2 6;have l2 : w.heap.size < w2.heap.size := by omega
   obtain ⟨n0, n1, n2, n3, n4, n5, n6⟩ := qr hC3;have l3 : w.heap.size < W3.heap.size := by omega
   clear hb2 hs2 hC2 hW3 hb23 hC3 hah3 m0 m1 m2 m3 m4 m5 m6 Hbr HCr Hbw
   go_upto_region 9 with fail
   rw [HW3.out];go_wp2;clear n0 n1 n2 n3 n4 n5 n6 k6 f6
   go_loopg [38] f.blocks.length (fun gh s38 wx => ∃ i : Nat, i ≤ f.blocks.length ∧ gh = f.blocks.length - i ∧ s38 = .int .i64 (i : Int) ∧ Hid (fst0 ((blksF u f).take i) = 0) ∧ Hid (Below W3.heap.size W3 wx))
   case atStart => exact ⟨0, Nat.zero_le _, rfl, rfl, lh rfl, lh (Below.refl _ _)⟩
   case round =>
    obtain ⟨i, hi, rfl, rfl, Hz, Hbx⟩ := hrel;have hzx := Hbx.out.size
    by_cases hlt : i < f.blocks.length
    ·obtain ⟨b, off, vp, vl, vt, rfl, hb, hp, hl, ht, q0, q1, q2, q3, q4, q5⟩ := Hb.out.blk_at hlt;obtain ⟨Ap, cp, rfl, _, _, hp⟩ := hp.cases_;obtain ⟨Al, cl, rfl, _, _, hl⟩ := hl.cases_;obtain ⟨At, ct, rfl, _, _, ht⟩ := ht.cases_;have Hbw := lh (HB3.out.trans (Hbx.out.mono HB3.out.size));have i1 := nnn i;have i2 : (i : Int) < (f.blocks.length : Int) := by omega
     have lb : b < wr.heap.size := by have := Hbw.out.size; omega
     have r0 := (Hbw.out.cell (p := ⟨b, off + i * 6, none⟩) hb).trans q0;have r1 := (Hbw.out.cell (p := ⟨b, off + i * 6 + 1, none⟩) hb).trans q1;have r2 := (Hbw.out.cell (p := ⟨b, off + i * 6 + 2, none⟩) hb).trans q2;have r3 := (Hbw.out.cell (p := ⟨b, off + i * 6 + 3, none⟩) hb).trans q3;have r4 := (Hbw.out.cell (p := ⟨b, off + i * 6 + 4, none⟩) hb).trans q4;have r5 := (Hbw.out.cell (p := ⟨b, off + i * 6 + 5, none⟩) hb).trans q5;have HYes : Hid (blkF u f i f.blocks[i] = 0 -> fst0 ((blksF u f).take (i + 1)) = 0) := lh fun h => q3e (qes hlt) h Hz.out;have HNo : Hid (blkF u f i f.blocks[i] ≠ 0 -> fst0 (blksF u f) = blkF u f i f.blocks[i]) := lh fun h => q5q (qes hlt) h Hz.out;generalize f.blocks[i] = bk at *;obtain ⟨gX, hgX⟩ := nmm (wr.heap.size);obtain ⟨W4, hW4⟩ := nmm (wr.alloc (Obj.cells #[.slice Ap bk.phis.length cp, .slice Al bk.list.length cl, .int .i64 bk.end_.kind, .bool bk.end_.on.reg, .int .i64 bk.end_.on.n, .slice At bk.end_.to.length ct] 68));have hbw : Below wr.heap.size wr W4 := by subst hW4; exact bl0
     have HX4 : Hid (W4.heap[gX]? = some (.cells #[.slice Ap bk.phis.length cp, .slice Al bk.list.length cl, .int .i64 bk.end_.kind, .bool bk.end_.on.reg, .int .i64 bk.end_.on.n, .slice At bk.end_.to.length ct] 68 (0, 0))) := lh (by subst hW4 hgX; exact heap_alloc_new _ _);have HB4 := lh (Hbw.out.trans (hbw.mono Hbw.out.size));have HB34 := lh hbw;have HC4 := lh ((hbw.block _ (by omega)).trans ((Hbx.out.block _ l3).trans HC3.out));have Hah4 := lh ((Hah3.out.up Hbx.out Hbx.out.size).up hbw hbw.size);have Hp4 := lh (hp.up HB4.out HB4.out.size);have Hl4 := lh (hl.up HB4.out HB4.out.size);have HW4 := lh hW4.symm;obtain ⟨x0, x1, x2, x3, x4, x5⟩ := q1d HX4.out;have lx := qa HX4.out;have hs4 := hbw.size;clear hp hl ht q0 q1 q2 q3 q4 q5 hbw hW4
     go_upto_region 12 with fail
     rw [HW4.out];rw [<- hgX];clear hgX;go_wp2;clear x0 x1 x2 x3 x4 x5 r0 r1 r2 r3 r4 r5 lx
     go_loopg [46] bk.phis.length (fun gh s46 wy => ∃ j : Nat, j ≤ bk.phis.length ∧ gh = bk.phis.length - j ∧ s46 = .int .i64 (j : Int) ∧ Hid (fst0 ((phisF f i bk).take j) = 0) ∧ Hid (Below W4.heap.size W4 wy))
     case atStart => exact ⟨0, Nat.zero_le _, rfl, rfl, lh rfl, lh (Below.refl _ _)⟩
     case round =>
      obtain ⟨j, hj, rfl, rfl, Hzj, Hby⟩ := hrel;have hzy := Hby.out.size
      by_cases hlj : j < bk.phis.length
      ·obtain ⟨ba, oa, va, rfl, hba, hav, a0, a1⟩ := Hp4.out.phi_at hlj;obtain ⟨Aa, ca, rfl, _, _, hav⟩ := hav.cases_;have j1 := nnn j;have j2 : (j : Int) < (bk.phis.length : Int) := by omega
       have s0 := (Hby.out.cell (p := ⟨ba, oa + j * 2, none⟩) hba).trans a0;have s1 := (Hby.out.cell (p := ⟨ba, oa + j * 2 + 1, none⟩) hba).trans a1;have lba : ba < wr.heap.size := by omega
       obtain ⟨m0, m1, m2, m3, m4, m5, m6⟩ := qr ((Hby.out.block _ (qa HC4.out)).trans HC4.out);have lcr : w.heap.size < wr.heap.size := by have := qa HC4.out; omega
       have Hyes : Hid (phiF f i bk.phis[j] = 0 -> fst0 ((phisF f i bk).take (j + 1)) = 0) := lh fun h => q3e (by unfold phisF; rw [List.getElem?_map, List.getElem?_eq_getElem hlj]; rfl) h Hzj.out;have Hno : Hid (phiF f i bk.phis[j] ≠ 0 -> fst0 (phisF f i bk) = phiF f i bk.phis[j]) := lh fun h => q5q (by unfold phisF; rw [List.getElem?_map, List.getElem?_eq_getElem hlj]; rfl) h Hzj.out;have Hbz := lh (HB4.out.trans (Hby.out.mono HB4.out.size));have Hav5 := lh ((show Rp.SL rpVal W4 W4.heap.size _ _ from hav).up Hby.out Hby.out.size);have Hah5 := lh (Hah4.out.up Hby.out Hby.out.size);generalize bk.phis[j] = a at *;clear hav a0 a1
       go_wp2_with fail
       refine qjk gA fA _ _ gn gc fn fc f.blocks.length bc _ _ f.name f.params f.regs (q3a f.blocks) i a _ hI.out hlo _ (by rw [q6y]; exact hlt) (Hah5.out.up (by exact bl0) (by simp)) (Hav5.out.up (by exact bl0) (by simp)) _ (fun w7 hb7 => ?_);rw [qnk hlt];have Hb7 := lh (Hby.out.trans (((by exact bl0 : Below wr.heap.size wr _).trans (hb7.mono (by simp))).mono hzy));clear hb7;generalize phiF f i a = e at *
       by_cases hv : e = 0
       ·have hvb : (e != 0) = false := by simp [hv]
        have hy := lh (Hyes.out hv);clear Hyes Hno;go_wp2
        go_roundg (bk.phis.length - (j + 1))
        case measure => omega
        case rel => exact ⟨j + 1, by omega, rfl, by go_num, hy, Hb7⟩
       ·have hvb : (e != 0) = true := by simp [hv]
        have hy := lh (Hno.out hv);have Hfin := lh (HF.out _ (HB4.out.trans (Hb7.out.mono HB4.out.size)))
        rw [show fst0 (blksF u f) = e from by
         have e1 : blkF u f i bk = e := by rw [qdm, if_neg (by rw [hy.out]; exact hv)]; exact hy.out
         rw [HNo.out (by rw [e1]; exact hv), e1]] at Hfin
        clear Hyes Hno;go_wp2;exact Hfin.out
      ·obtain rfl : j = bk.phis.length := by omega
       have j2 : ¬ ((bk.phis.length : Int) < (bk.phis.length : Int)) := by omega
       have Hph : Hid (fst0 (phisF f i bk) = 0) := lh (by have := Hzj.out; rwa [show bk.phis.length = (phisF f i bk).length from by simp [phisF], List.take_length] at this);have HbyP := Hby;obtain ⟨x0, x1, x2, x3, x4, x5⟩ := q1d ((Hby.out.block _ (qa HX4.out)).trans HX4.out);have lx : gX < wr.heap.size := by have := qa HX4.out; omega
       clear Hzj;go_wp2
       go_loopg [61] bk.list.length (fun gh s61 wy => ∃ j : Nat, j ≤ bk.list.length ∧ gh = bk.list.length - j ∧ s61 = .int .i64 (j : Int) ∧ Hid (fst0 ((inssF u f bk).take j) = 0) ∧ Hid (Below W4.heap.size W4 wy))
       case atStart => exact ⟨0, Nat.zero_le _, rfl, rfl, lh rfl, HbyP⟩
       case round =>
        obtain ⟨j, hj, rfl, rfl, Hzj, Hby⟩ := hrel;have hzy := Hby.out.size
        by_cases hlj : j < bk.list.length
        ·obtain ⟨ba, oa, va, rfl, hba, hav, a0, a1, a2, a3, a4, a5, a6, a7⟩ := Hl4.out.ins_at hlj;obtain ⟨Aa, ca, rfl, _, _, hav⟩ := hav.cases_;have j1 := nnn j;have j2 : (j : Int) < (bk.list.length : Int) := by omega
         have s0 := (Hby.out.cell (p := ⟨ba, oa + j * 8, none⟩) hba).trans a0;have s1 := (Hby.out.cell (p := ⟨ba, oa + j * 8 + 1, none⟩) hba).trans a1;have s2 := (Hby.out.cell (p := ⟨ba, oa + j * 8 + 2, none⟩) hba).trans a2;have s3 := (Hby.out.cell (p := ⟨ba, oa + j * 8 + 3, none⟩) hba).trans a3;have s4 := (Hby.out.cell (p := ⟨ba, oa + j * 8 + 4, none⟩) hba).trans a4;have s5 := (Hby.out.cell (p := ⟨ba, oa + j * 8 + 5, none⟩) hba).trans a5;have s6 := (Hby.out.cell (p := ⟨ba, oa + j * 8 + 6, none⟩) hba).trans a6;have s7 := (Hby.out.cell (p := ⟨ba, oa + j * 8 + 7, none⟩) hba).trans a7;have lba : ba < wr.heap.size := by omega
         obtain ⟨m0, m1, m2, m3, m4, m5, m6⟩ := qr ((Hby.out.block _ (qa HC4.out)).trans HC4.out);have lcr : w.heap.size < wr.heap.size := by have := qa HC4.out; omega
         have Hyes : Hid (insF u f.regs bk.list[j] = 0 -> fst0 ((inssF u f bk).take (j + 1)) = 0) := lh fun h => q3e (by unfold inssF; rw [List.getElem?_map, List.getElem?_eq_getElem hlj]; rfl) h Hzj.out;have Hno : Hid (insF u f.regs bk.list[j] ≠ 0 -> fst0 (inssF u f bk) = insF u f.regs bk.list[j]) := lh fun h => q5q (by unfold inssF; rw [List.getElem?_map, List.getElem?_eq_getElem hlj]; rfl) h Hzj.out;have Hbz := lh (HB4.out.trans (Hby.out.mono HB4.out.size));have Hav5 := lh ((show Rp.SL rpVal W4 W4.heap.size _ _ from hav).up Hby.out Hby.out.size);have Hf5 := lh (Hf.out.up Hbz.out Hbz.out.size);generalize bk.list[j] = a at *;clear hav a0 a1 a2 a3 a4 a5 a6 a7
         go_wp2_with fail
         refine qiz gA fA _ _ gn gc _ fc f.blocks.length bc _ _ f.name f.params f.regs u a _ hI.out hlo _ (Hf5.out.up (by exact bl0) (by simp)) (Hav5.out.up (by exact bl0) (by simp)) _ (fun w7 hb7 => ?_);have Hb7 := lh (Hby.out.trans (((by exact bl0 : Below wr.heap.size wr _).trans (hb7.mono (by simp))).mono hzy));clear hb7;generalize insF u f.regs a = e at *
         by_cases hv : e = 0
         ·have hvb : (e != 0) = false := by simp [hv]
          have hy := lh (Hyes.out hv);clear Hyes Hno;go_wp2
          go_roundg (bk.list.length - (j + 1))
          case measure => omega
          case rel => exact ⟨j + 1, by omega, rfl, by go_num, hy, Hb7⟩
         ·have hvb : (e != 0) = true := by simp [hv]
          have hy := lh (Hno.out hv);have Hfin := lh (HF.out _ (HB4.out.trans (Hb7.out.mono HB4.out.size)))
          rw [show fst0 (blksF u f) = e from by
           have e1 : blkF u f i bk = e := by rw [qdm, if_pos Hph.out]; exact hy.out
           rw [HNo.out (by rw [e1]; exact hv), e1]] at Hfin
          clear Hyes Hno;go_wp2;exact Hfin.out
        ·obtain rfl : j = bk.list.length := by omega
         have j2 : ¬ ((bk.list.length : Int) < (bk.list.length : Int)) := by omega
         have Hn : Hid (fst0 ((blksF u f).take (i + 1)) = 0) := lh (HYes.out (by
        rw [qdm, if_pos Hph.out];have := Hzj.out
        rwa [show bk.list.length = (inssF u f bk).length from by simp [inssF], List.take_length] at this))
         have Hb8 := lh (Hbx.out.trans (HB34.out.trans (Hby.out.mono HB34.out.size) |>.mono (by omega)));go_wp2
         go_roundg (f.blocks.length - (i + 1))
         case measure => omega
         case rel => exact ⟨i + 1, by omega, rfl, by go_num, Hn, Hb8⟩
    ·obtain rfl : i = f.blocks.length := by omega
     have i2 : ¬ ((f.blocks.length : Int) < (f.blocks.length : Int)) := by omega
     have Hfin := lh (HF.out _ (HB3.out.trans (Hbx.out.mono HB3.out.size)));rw [show fst0 (blksF u f) = 0 from by have := Hz.out; rwa [<- qi3 (u := u) (f := f), List.take_length] at this] at Hfin;go_wp2;exact Hfin.out
theorem qar {s : ByteArray} {k : Nat} (h : k < s.size) : q1p s (s.size - k) k = (q6e k s[k] && q1p s (s.size - (k + 1)) (k + 1)) := by
 rw [show s.size - k = (s.size - (k + 1)) + 1 from by omega, q1p, qev h]
theorem q0p (s : ByteArray) (w : World) (R : Ending -> World -> Prop) (hR : R (.returned (.bool (q1b s))) w) :
 Calls Tryz.prog 122 #[.string s] w R := by
 by_cases h1 : s.size < 1
 ·have HR : Hid (R (.returned (.bool false)) w) := by
   rw [show q1b s = false from by rw [q1b, Bool.and_eq_false_iff]; left; simp; omega] at hR;exact lh hR
  clear hR;have h1i : (s.size : Int) < 1 := by omega
  clear h1
  go_enter Tryz.func122, Tryz.ntmps122
  go_wp2;exact HR.out
 by_cases h2 : 12 < s.size
 ·have HR : Hid (R (.returned (.bool false)) w) := by
   rw [show q1b s = false from by rw [q1b, Bool.and_eq_false_iff]; left; simp; omega] at hR;exact lh hR
  clear hR;have h1i : ¬ (s.size : Int) < 1 := by omega
  have h2i : (12 : Int) < (s.size : Int) := by omega
  clear h1 h2
  go_enter Tryz.func122, Tryz.ntmps122
  go_wp2;exact HR.out
 have HR : Hid (R (.returned (.bool (q1p s s.size 0))) w) := by
  rw [show q1b s = q1p s s.size 0 from by rw [q1b, show decide (1 ≤ s.size ∧ s.size ≤ 12) = true from by simp; omega, Bool.true_and]] at hR;exact lh hR
 clear hR;have h1i : ¬ (s.size : Int) < 1 := by omega
 have h2i : ¬ (12 : Int) < (s.size : Int) := by omega
 go_enter Tryz.func122, Tryz.ntmps122
 go_wp2
 go_loopg [3, 4, 15] s.size (fun g j c i wr => ∃ k : Nat, k ≤ s.size ∧ g = s.size - k ∧ i = .int .i64 k ∧ q1p s (s.size - k) k = q1p s s.size 0 ∧ wr = w)
 case atStart => exact ⟨0, Nat.zero_le _, rfl, rfl, rfl, rfl⟩
 case round =>
  obtain ⟨k, hk, rfl, rfl, ht, rfl⟩ := hrel;have Ht := lh ht;clear ht
  by_cases hlt : k < s.size
  ·have i1 := nnn k;have i2 : (k : Int) < (s.size : Int) := by omega
   have Hs := lh (qar hlt);have hlo : Hid (q6e k s[k] = decide ((97 ≤ s[k].toNat ∧ s[k].toNat ≤ 122) ∨ (65 ≤ s[k].toNat ∧ s[k].toNat ≤ 90) ∨ s[k].toNat = 95 ∨ (0 < k ∧ 48 ≤ s[k].toNat ∧ s[k].toNat ≤ 57))) := lh rfl;have hyes : Hid (q6e k s[k] = true -> q1p s (s.size - (k + 1)) (k + 1) = q1p s s.size 0) := lh fun h => by rw [<- Ht.out, Hs.out, h, Bool.true_and]
   have hno : Hid (q6e k s[k] = false -> R (.returned (.bool false)) wr) := lh fun h => by
    have := HR.out;rw [<- Ht.out, Hs.out, h, Bool.false_and] at this;exact this
   clear HR;go_wp2
   all_goals first
   | (refine hno.out ?_
      try simp only [Bool.not_eq_true', Bool.not_eq_false', decide_eq_true_eq, decide_eq_false_iff_not, beq_iff_eq, beq_eq_false_iff_ne, ne_eq] at *
      rw [hlo.out];exact decide_eq_false (by omega))
   | (go_roundg (s.size - (k + 1))
      case measure => omega
      case rel =>
       refine ⟨k + 1, hlt, rfl, by go_num, hyes.out ?_, rfl⟩
       try simp only [Bool.not_eq_true', Bool.not_eq_false', decide_eq_true_eq, decide_eq_false_iff_not, beq_iff_eq, beq_eq_false_iff_ne, ne_eq] at *
       rw [hlo.out];exact decide_eq_true (by omega))
  ·obtain rfl : k = s.size := by omega
   rw [Nat.sub_self, q1p] at Ht;rw [<- Ht.out] at HR;go_wp2;exact HR.out
def q0w (s : ByteArray) : List Value := [.string s]
theorem Rp.SL.str_at {w : World} {B : Nat} {xs : List ByteArray} {A : Option Addr} {n c k : Nat} (h : rpStr.SL w B xs (.slice A n c)) (hk : k < xs.length) : ∃ b off, A = some ⟨b, off, none⟩ ∧ b < B ∧ w.cell? ⟨b, off + k, none⟩ = some (.string xs[k]) := by
 obtain ⟨b, off, cs, hA, hb, hr, hcs⟩ := h.at_ (List.getElem?_eq_getElem hk);have : cs = [.string xs[k]] := hr;subst this;refine ⟨b, off, hA, hb, ?_⟩;have := hcs 0 _ rfl;simpa [rpStr] using this
theorem qbf {w : World} {B base : Nat} {e : TypeId} {v : Value} {xs : List ByteArray} (h : w.ownsRow base e 1 v xs.length (xs.flatMap q0w)) (hB : w.heap.size ≤ B) : rpStr.SL w B xs v :=
 Rp.SL.of_own (r := rpStr) (f := q0w) (fun _ _ _ => rfl) (fun _ => rfl) h hB
theorem qe1 : (Tryz.prog.info? 9).map (fun i => (i.zero, i.size, i.bytes)) = some (some (.string ByteArray.empty), 1, 16) := by kernel_rfl
def inN (l : List ByteArray) (nm : ByteArray) : Bool := l.any fun o => decide (o = nm)
theorem qc5 (l : List ByteArray) (v : Value) (nm : ByteArray) (w : World) (h : rpStr.SL w w.heap.size l v) (R : Ending -> World -> Prop)
 (hR : ∀ r : Int, decide (0 ≤ r) = inN l nm -> R (.returned (.int .i64 r)) w) : Calls Tryz.prog 134 #[v, .string nm] w R := by
 obtain ⟨A, c, rfl, hm, hcap, h⟩ := h.cases_;obtain ⟨HR, H⟩ := lh2 hR h;clear hR h
 go_enter Tryz.func134, Tryz.ntmps134
 go_wp2
 go_loopg [5, 8] l.length (fun g s5 i wr => ∃ k : Nat, k ≤ l.length ∧ g = l.length - k ∧ i = .int .i64 k ∧ inN (l.take k) nm = false ∧ wr = w)
 case atStart => exact ⟨0, Nat.zero_le _, rfl, rfl, rfl, rfl⟩
 case round =>
  obtain ⟨k, hk, rfl, rfl, ht, rfl⟩ := hrel;rename World => w;have Ht := lh ht;have i1 := nnn k;clear ht
  by_cases hlt : k < l.length
  ·obtain ⟨b, off, rfl, hb, q0⟩ := H.out.str_at hlt;have i2 : (k : Int) < (l.length : Int) := by omega
   have hne := qja nm l[k]
   have Hst : Hid (inN (l.take (k + 1)) nm = decide (l[k] = nm)) := lh (by
    have e := Ht.out;unfold inN at e ⊢;rw [q2u _ hlt, e, Bool.false_or])
   have Hof : Hid (l[k] = nm -> inN l nm = true) := lh fun h => List.any_eq_true.2 ⟨_, List.getElem_mem hlt, by simpa using h⟩;generalize l[k] = s at *
   by_cases hx : s = nm
   ·have Hfin := lh (HR.out (k : Int) (by rw [Hof.out hx]; exact decide_eq_true i1));subst hx;rw [decide_eq_true rfl] at hne;clear HR Hst Hof;go_wp2;exact Hfin.out
   ·rw [decide_eq_false (fun e => hx e.symm)] at hne;rw [decide_eq_false hx] at Hst;clear hx Hof;go_wp2
    go_roundg (l.length - (k + 1))
    case measure => omega
    case rel => exact ⟨k + 1, hlt, rfl, by go_num, Hst.out, rfl⟩
  ·obtain rfl : k = l.length := by omega
   rw [List.take_length] at Ht;have Hfin := lh (HR.out (-1) (by rw [Ht.out]; rfl));clear HR;go_wp2;exact Hfin.out
theorem q08 (l : List ByteArray) (v : Value) (nm : ByteArray) (w : World) (h : rpStr.SL w w.heap.size l v) (R : Ending -> World -> Prop)
 (hR : R (.returned (.bool (inN l nm))) w) : Calls Tryz.prog 123 #[v, .string nm] w R := by
 have HR := lh hR;clear hR
 go_enter Tryz.func123, Tryz.ntmps123
 go_wp2_with fail
 refine qc5 l _ nm _ h _ (fun r hr => ?_);rw [<- hr] at HR;clear h hr;go_wp2;exact HR.out
theorem qgy {l : List UBlk} {k : Nat} (h : k < l.length) : manyW l (k + 1) = wrap64 (manyW l k + wrap64 ((l[k].phis.length : Int) + (l[k].list.length : Int))) := by
 rw [manyW, List.getElem?_eq_getElem h]
theorem qgl (f : UFun) (names : List ByteArray) (vn : Value) (gA fA bA : Option Addr) (gn gc fn fc bc : Nat) (w : World)
 (hn : rpStr.SL w w.heap.size names vn) (hb : rpBlk.SL w w.heap.size f.blocks (.slice bA f.blocks.length bc)) (R : Ending -> World -> Prop) (hR : ∀ w', Below w.heap.size w w' -> R (.returned (.int .i64 (headF (inN names) f))) w') :
 Calls Tryz.prog 124 #[.agg #[.slice gA gn gc, .slice fA fn fc, .string f.name, .int .i64 f.params, .int .i64 f.regs, .slice bA f.blocks.length bc, .slice none 0 0], vn] w R := by
 obtain ⟨An, cn, rfl, _, _, hn⟩ := hn.cases_;obtain ⟨HR, Hn, Hb⟩ := lh3 hR hn hb;have hbm := hb.max;unfold maxLen at hbm;obtain ⟨W1, hW1⟩ := nmm (w.alloc (Obj.cells #[.slice gA gn gc, .slice fA fn fc, .string f.name, .int .i64 f.params, .int .i64 f.regs, .slice bA f.blocks.length bc, .slice none 0 0] 171));have HC1 : Hid (W1.heap[w.heap.size]? = some (.cells #[.slice gA gn gc, .slice fA fn fc, .string f.name, .int .i64 f.params, .int .i64 f.regs, .slice bA f.blocks.length bc, .slice none 0 0] 171 (0, 0))) := lh (by subst hW1; exact heap_alloc_new _ _);have Hb1 : Hid (Below w.heap.size w W1) := lh (by subst hW1; exact bl0);have hs1 : W1.heap.size = w.heap.size + 1 := by subst hW1; simp
 have HW1 := lh hW1.symm;clear hR hn hb hW1;obtain ⟨c0, c1, c2, c3, c4, c5, c6⟩ := qr HC1.out;have lc := qa HC1.out
 go_enter Tryz.func124, Tryz.ntmps124
 go_upto_region 2 with fail
 rw [HW1.out];go_wp2;clear c0 c1 c2 c3 c4 c5 c6
 go_loopg [5, 12] f.blocks.length (fun gh s5 s12 wr => ∃ i : Nat, i ≤ f.blocks.length ∧ gh = f.blocks.length - i ∧ s12 = .int .i64 (i : Int) ∧ s5 = .int .i64 (manyW f.blocks i) ∧ Hid (Below W1.heap.size W1 wr))
 case atStart => exact ⟨0, Nat.zero_le _, rfl, rfl, rfl, lh (Below.refl _ _)⟩
 case round =>
  obtain ⟨i, hi, rfl, rfl, rfl, Hbr⟩ := hrel;have hzr := Hbr.out.size
  by_cases hlt : i < f.blocks.length
  ·obtain ⟨b, off, vp, vl, vt, rfl, hb, hp, hl, ht, q0, q1, q2, q3, q4, q5⟩ := Hb.out.blk_at hlt;obtain ⟨Ap, cp, rfl, hpm, _, hp⟩ := hp.cases_;obtain ⟨Al, cl, rfl, hlm, _, hl⟩ := hl.cases_;obtain ⟨At, ct, rfl, _, _, ht⟩ := ht.cases_;have Hbw := lh (Hb1.out.trans (Hbr.out.mono (by omega)));have i1 := nnn i;have i2 : (i : Int) < (f.blocks.length : Int) := by omega
   have lb : b < wr.heap.size := by omega
   have r0 := (Hbw.out.cell (p := ⟨b, off + i * 6, none⟩) hb).trans q0;have r1 := (Hbw.out.cell (p := ⟨b, off + i * 6 + 1, none⟩) hb).trans q1;have r2 := (Hbw.out.cell (p := ⟨b, off + i * 6 + 2, none⟩) hb).trans q2;have r3 := (Hbw.out.cell (p := ⟨b, off + i * 6 + 3, none⟩) hb).trans q3;have r4 := (Hbw.out.cell (p := ⟨b, off + i * 6 + 4, none⟩) hb).trans q4;have r5 := (Hbw.out.cell (p := ⟨b, off + i * 6 + 5, none⟩) hb).trans q5;have Hst := lh (qgy hlt);have Hb5 := lh (Hbr.out.alloc hzr (Obj.cells #[.slice Ap f.blocks[i].phis.length cp, .slice Al f.blocks[i].list.length cl, .int .i64 f.blocks[i].end_.kind, .bool f.blocks[i].end_.on.reg, .int .i64 f.blocks[i].end_.on.n, .slice At f.blocks[i].end_.to.length ct] 68));generalize f.blocks[i] = bk at *;generalize manyW f.blocks i = m at *;clear hp hl ht q0 q1 q2 q3 q4 q5;go_wp2
   go_roundg (f.blocks.length - (i + 1))
   case measure => omega
   case rel => exact ⟨i + 1, by omega, rfl, by go_num, by rw [Hst.out], Hb5⟩
  ·obtain rfl : i = f.blocks.length := by omega
   have i2 : ¬ ((f.blocks.length : Int) < (f.blocks.length : Int)) := by omega
   obtain ⟨c0, c1, c2, c3, c4, c5, c6⟩ := qr ((Hbr.out.block _ lc).trans HC1.out);have lcr : w.heap.size < wr.heap.size := by omega
   have Hbw := lh (Hb1.out.trans (Hbr.out.mono (by omega)));have Hnr := lh (Hn.out.up Hbw.out Hbw.out.size);have HR2 := lh (HR.out wr Hbw.out);clear HR Hbr Hb
   by_cases h1 : q1b f.name = false
   ·rw [show headF (inN names) f = 12 from by unfold headF; rw [if_pos h1]] at HR2
    go_wp2_with fail
    refine q0p _ _ _ ?_;rw [h1];go_wp2;exact HR2.out
   have h1' : q1b f.name = true := by simpa using h1
   by_cases h2 : inN names f.name = true
   ·rw [show headF (inN names) f = 7 from by unfold headF; rw [if_neg h1, if_pos h2]] at HR2;clear h1
    go_wp2_with fail
    refine q0p _ _ _ ?_;rw [h1']
    go_wp2_with fail
    refine q08 names _ _ _ Hnr.out _ ?_;rw [h2];go_wp2;exact HR2.out
   have h2' : inN names f.name = false := by simpa using h2
   generalize hm : manyW f.blocks f.blocks.length = m at *
   by_cases h3 : ¬ (0 ≤ f.params ∧ f.params ≤ 6)
   ·rw [show headF (inN names) f = 3 from by unfold headF; rw [if_neg h1, if_neg h2, if_pos (.inl h3)]] at HR2;have hd : decide (0 ≤ f.params ∧ f.params ≤ 6) = false := by simpa using h3
    clear h1 h2 h3 hm
    go_wp2_with fail
    refine q0p _ _ _ ?_;rw [h1']
    go_wp2_with fail
    refine q08 names _ _ _ Hnr.out _ ?_;rw [h2']
    go_wp2_with fail
    refine qd f.params 0 6 _ _ ?_;rw [hd];go_wp2;exact HR2.out
   have hd3 : decide (0 ≤ f.params ∧ f.params ≤ 6) = true := by simpa using Decidable.of_not_not h3
   by_cases h4 : ¬ (f.params ≤ f.regs ∧ f.regs ≤ 100)
   ·rw [show headF (inN names) f = 3 from by unfold headF; rw [if_neg h1, if_neg h2, if_pos (.inr h4)]] at HR2;have hd : decide (f.params ≤ f.regs ∧ f.regs ≤ 100) = false := by simpa using h4
    clear h1 h2 h3 h4 hm
    go_wp2_with fail
    refine q0p _ _ _ ?_;rw [h1']
    go_wp2_with fail
    refine q08 names _ _ _ Hnr.out _ ?_;rw [h2']
    go_wp2_with fail
    refine qd f.params 0 6 _ _ ?_;rw [hd3]
    go_wp2_with fail
    refine qd f.regs f.params 100 _ _ ?_;rw [hd];go_wp2;exact HR2.out
   have hd4 : decide (f.params ≤ f.regs ∧ f.regs ≤ 100) = true := by simpa using Decidable.of_not_not h4
   have hneg : ¬ (¬ (0 ≤ f.params ∧ f.params ≤ 6) ∨ ¬ (f.params ≤ f.regs ∧ f.regs ≤ 100)) := fun h => h.elim h3 h4
   by_cases h5 : ¬ (1 ≤ (f.blocks.length : Int) ∧ (f.blocks.length : Int) ≤ 40)
   ·rw [show headF (inN names) f = 2 from by unfold headF; rw [if_neg h1, if_neg h2, if_neg hneg, if_pos (.inl h5)]] at HR2;have hd : decide (1 ≤ (f.blocks.length : Int) ∧ (f.blocks.length : Int) ≤ 40) = false := by simp only [decide_eq_false_iff_not]; exact h5
    clear h1 h2 h3 h4 h5 hneg hm
    go_wp2_with fail
    refine q0p _ _ _ ?_;rw [h1']
    go_wp2_with fail
    refine q08 names _ _ _ Hnr.out _ ?_;rw [h2']
    go_wp2_with fail
    refine qd f.params 0 6 _ _ ?_;rw [hd3]
    go_wp2_with fail
    refine qd f.regs f.params 100 _ _ ?_;rw [hd4]
    go_wp2_with fail
    refine qd (f.blocks.length : Int) 1 40 _ _ ?_;rw [hd];go_wp2;exact HR2.out
   have hd5 : decide (1 ≤ (f.blocks.length : Int) ∧ (f.blocks.length : Int) ≤ 40) = true := by simp only [decide_eq_true_eq]; exact Decidable.of_not_not h5
   by_cases h6 : 300 < m
   ·rw [show headF (inN names) f = 2 from by unfold headF; rw [hm, if_neg h1, if_neg h2, if_neg hneg, if_pos (.inr h6)]] at HR2;clear h1 h2 h3 h4 h5 hneg hm
    go_wp2_with fail
    refine q0p _ _ _ ?_;rw [h1']
    go_wp2_with fail
    refine q08 names _ _ _ Hnr.out _ ?_;rw [h2']
    go_wp2_with fail
    refine qd f.params 0 6 _ _ ?_;rw [hd3]
    go_wp2_with fail
    refine qd f.regs f.params 100 _ _ ?_;rw [hd4]
    go_wp2_with fail
    refine qd (f.blocks.length : Int) 1 40 _ _ ?_;rw [hd5];go_wp2;exact HR2.out
   ·rw [show headF (inN names) f = 0 from by unfold headF; rw [hm, if_neg h1, if_neg h2, if_neg hneg, if_neg (fun h => h.elim h5 h6)]] at HR2;clear h1 h2 h3 h4 h5 hneg hm
    go_wp2_with fail
    refine q0p _ _ _ ?_;rw [h1']
    go_wp2_with fail
    refine q08 names _ _ _ Hnr.out _ ?_;rw [h2']
    go_wp2_with fail
    refine qd f.params 0 6 _ _ ?_;rw [hd3]
    go_wp2_with fail
    refine qd f.regs f.params 100 _ _ ?_;rw [hd4]
    go_wp2_with fail
    refine qd (f.blocks.length : Int) 1 40 _ _ ?_;rw [hd5];go_wp2;exact HR2.out
theorem qnj (xs : List ByteArray) : ∀ u ∈ xs.flatMap q0w, u.oneCell' = true := by
 intro u hu;obtain ⟨x, _, hx⟩ := List.mem_flatMap.1 hu;simp [q0w] at hx;subst hx;rfl
theorem qhw {ops : Array Oper} {rest : List Oper} {o : Oper} {a : Act} {w : World} {Q : Exit -> Act -> World -> Prop} (hgd : o.guard = none) (s x : Operand) (ho : o.op = .call { callee := .builtin .append, args := #[s, x], argTypes := #[85, 85] })
 {base : Nat} {v : Value} {xs : List ByteArray} (hs : a.eval s = v) (hown : w.ownsRow base 9 1 v xs.length (xs.flatMap q0w)) (g : Nat) (y : ByteArray) (hx : a.eval x = .slice (some ⟨g, 0, none⟩) 1 1) (hg : w.heap[g]? = some (.cells #[.string y] 9 (0, 0))) (hfew : xs.length ≤ 100) (hbase : base ≤ w.heap.size)
 (h : ∀ v' w', w'.ownsRow base 9 1 v' (xs ++ [y]).length ((xs ++ [y]).flatMap q0w) -> w.grownBy w' v.ownBlock -> (v'.ownBlock = v.ownBlock ∨ v'.ownBlock = some w.heap.size) -> wpList Tryz.prog ops Q rest (a.put o.dst v') w') : wpList Tryz.prog ops Q (o :: rest) a w := by
 obtain ⟨i0, hi0, hz0, hz1, hz2⟩ := info_parts qe1;refine wpList_append_own_at w hgd s x 85 ho base 9 i0 _ 1 16 Tryz.underlying85 hi0 hz0 hz1 hz2 rfl (by decide) v xs.length (xs.flatMap q0w) hs hown ⟨g, 0, none⟩ 1 1 ([y].flatMap q0w) hx rfl (fun j u hj => ?_) (qnj [y]) (by unfold maxLen; omega) (by omega) hbase (fun v' w' h1 h2 _ h3 => h v' w' ?_ h2 h3)
 ·match j, hj with
  | 0, hj =>
    have e : u = .string y := by
     have : (some (Value.string y)) = some u := hj;exact (Option.some.inj this).symm
    rw [e, Addr.add_lit];simp [World.cell?, hg]
  | j + 1, hj => simp [q0w] at hj
 ·rw [List.length_append, List.flatMap_append];exact h1
def q4e (l : List UFun) : Option Nat := l.findIdx? fun f => decide (f.name = mainU)
def idxZ : Option Nat -> Int
 | none => -1
 | some k => (k : Int)
theorem qgx {l : List UFun} {k : Nat} (h : k < l.length) (hn : l[k].name = mainU) (hno : ∀ j (hj : j < l.length), j < k -> l[j].name ≠ mainU) : q4e l = some k := by
 unfold q4e;rw [List.findIdx?_eq_some_iff_getElem];exact ⟨h, by simpa using hn, fun j hj => by simpa using hno j (by omega) hj⟩
theorem qcd {l : List UFun} (hno : ∀ j (hj : j < l.length), l[j].name ≠ mainU) : q4e l = none := by
 unfold q4e;rw [List.findIdx?_eq_none_iff];intro f hf;obtain ⟨j, hj, rfl⟩ := List.mem_iff_getElem.1 hf;simpa using hno j hj
theorem qc8 (nm : ByteArray) (p r : Int) (A : Option Addr) (n c : Nat) (w : World) (R : Ending -> World -> Prop) (hR : ∀ w', Below w.heap.size w w' -> R (.returned (.bool (decide (nm = mainU)))) w') :
 Calls Tryz.prog 127 #[.agg #[.string nm, .int .i64 p, .int .i64 r, .slice A n c]] w R := by
 have HR := lh hR;clear hR
 have hne : (nm.toList == [109, 97, 105, 110]) = decide (nm = mainU) := by
  have h := qja nm mainU;rw [show mainU.toList = [109, 97, 105, 110] from by decide +kernel] at h;exact h
 rw [<- hne] at HR;clear hne
 go_enter Tryz.func127, Tryz.ntmps127
 go_wp2;exact HR.out _ bl0
theorem qal (l : List UFun) (v : Value) (w : World) (h : rpFun.SL w w.heap.size l v) (R : Ending -> World -> Prop)
 (hR : ∀ w', Below w.heap.size w w' -> R (.returned (.int .i64 (idxZ (q4e l)))) w') : Calls Tryz.prog 126 #[v, .func (.func 127) #[] #[]] w R := by
 obtain ⟨A, c, rfl, hm, hcap, h⟩ := h.cases_;obtain ⟨HR, H⟩ := lh2 hR h;clear hR h
 go_enter Tryz.func126, Tryz.ntmps126
 go_wp2
 go_loopg [5, 8] l.length (fun g s5 i wr => ∃ k : Nat, k ≤ l.length ∧ g = l.length - k ∧ i = .int .i64 k ∧ Hid (∀ j (hj : j < l.length), j < k -> l[j].name ≠ mainU) ∧ Hid (Below w.heap.size w wr))
 case atStart => exact ⟨0, Nat.zero_le _, rfl, rfl, lh (fun j _ h => absurd h (Nat.not_lt_zero j)), lh (Below.refl _ _)⟩
 case round =>
  obtain ⟨k, hk, rfl, rfl, Hno, Hb⟩ := hrel;have i1 := nnn k;have hz := Hb.out.size
  by_cases hlt : k < l.length
  ·obtain ⟨b, off, v, rfl, hb, hv, q0, q1, q2, q3⟩ := H.out.fun_at hlt;obtain ⟨Av, cv, rfl, _, _, hv⟩ := hv.cases_;have i2 : (k : Int) < (l.length : Int) := by omega
   have p0 := (Hb.out.cell (p := ⟨b, off + k * 4, none⟩) hb).trans q0;have p1 := (Hb.out.cell (p := ⟨b, off + k * 4 + 1, none⟩) hb).trans q1;have p2 := (Hb.out.cell (p := ⟨b, off + k * 4 + 2, none⟩) hb).trans q2;have p3 := (Hb.out.cell (p := ⟨b, off + k * 4 + 3, none⟩) hb).trans q3;have lb : b < wr.heap.size := by omega
   have Hyes : Hid (l[k].name = mainU -> q4e l = some k) := lh fun h => qgx hlt h Hno.out
   have Hnx : Hid (l[k].name ≠ mainU -> ∀ j (hj : j < l.length), j < k + 1 -> l[j].name ≠ mainU) := lh fun h j hj hjk => by
    rcases Nat.lt_or_ge j k with h1 | h1
    ·exact Hno.out j hj h1
    ·obtain rfl : j = k := by omega
     exact h
   generalize l[k] = x at *;clear hv q0 q1 q2 q3
   go_wp2_with fail
   refine qc8 _ _ _ _ _ _ _ _ (fun w1 hb1 => ?_);have Hb1 := btt Hb hb1 hz;clear hb1
   by_cases hx : x.name = mainU
   ·have Hfin := lh (HR.out _ Hb1.out);rw [Hyes.out hx] at Hfin;have hd : decide (x.name = mainU) = true := decide_eq_true hx;rw [hd];clear hx HR Hyes Hnx hd;go_wp2;exact Hfin.out
   ·have hd : decide (x.name = mainU) = false := decide_eq_false hx;rw [hd];have Hn2 := lh (Hnx.out hx);clear hx Hyes Hnx hd;go_wp2
    go_roundg (l.length - (k + 1))
    case measure => omega
    case rel => exact ⟨k + 1, hlt, rfl, by go_num, Hn2, Hb1⟩
  ·obtain rfl : k = l.length := by omega
   have Hfin := lh (HR.out _ Hb.out);rw [qcd (fun j hj => Hno.out j hj hj)] at Hfin;have i2 : ¬ ((l.length : Int) < (l.length : Int)) := by omega
   clear HR;go_wp2;exact Hfin.out
end Go.Proofs.YtdanebboiekieaaGreatDoor
