/- The walks, part 10. -/
import Derived.Test.YtdanebboiekieaaGreatDoorP09
import Derived.Maps.OwnIn
set_option linter.unusedSimpArgs false
set_option linter.unusedVariables false
set_option maxRecDepth 100000
set_option maxHeartbeats 16000000
namespace Go.Proofs.YtdanebboiekieaaGreatDoor
open Go.RowKit
def rowV (V : List (List Bool)) (t : Nat) : List Bool := V.getD t []
theorem q7t {V : List (List Bool)} {t : Nat} (h : t < V.length) : V[t] = rowV V t := by
 unfold rowV;rw [List.getD_eq_getElem?_getD, List.getElem?_eq_getElem h];rfl
theorem q96 (f : UFun) (n : Nat) (vb va vi : Value) (AH : List (List Int)) (V : List (List Bool)) (b : Nat) (w : World) (hn : f.regs = (n : Int)) (hn1 : n ≤ 100) (hnp : ∀ b ∈ f.blocks, b.phis = [])
 (hto : ∀ b ∈ f.blocks, ∀ t ∈ b.end_.to, 0 ≤ t ∧ t < (f.blocks.length : Int)) (hb : b < f.blocks.length)
 (h : rpBlk.SL w w.heap.size f.blocks vb) (ha : rpInt.slice.SL w w.heap.size AH va) (hal : AH.length = f.blocks.length) (hi : rpBool.slice.SL w w.heap.size V vi) (hil : V.length = f.blocks.length) (hrow : ∀ t, t < V.length -> (rowV V t).length = n) (R : Ending -> World -> Prop)
 (hR : ∀ w' g S, Below w.heap.size w w' -> w.heap.size ≤ g -> SetAt g S w' -> S.length = n -> (∀ r, r < n -> bAt S r = behB (fun t => bAt (rowV V t) r) f.blocks[b]) -> R (.returned (.slice (some ⟨g, 0, none⟩) n n)) w') :
 Calls Tryz.prog 116 #[.agg #[.string f.name, .int .i64 f.params, .int .i64 f.regs, vb], va, vi, .int .i64 (b : Int)] w R := by
 obtain ⟨A, c, rfl, hmx, hcap, hs⟩ := h.cases_;obtain ⟨Aa, ca, rfl, _, _, ha⟩ := ha.cases_;obtain ⟨Ai, ci, rfl, _, _, hi⟩ := hi.cases_;rw [hal] at ha ⊢;rw [hil] at hi ⊢;rw [hn];obtain ⟨HR, Hs, Ha, Hi, Hnp, Hto, Hal, Hil, Hrow⟩ := lh9 hR hs ha hi hnp hto hal hil hrow;clear hR hs h ha hi hnp hto hal hil hrow hn;obtain ⟨b1, off, vp, vl, vt, rfl, hb1, hp, hl, ht, q0, q1, q2, q3, q4, q5⟩ := Hs.out.blk_at hb;obtain ⟨Ap, cp, rfl, _, _, hp⟩ := hp.cases_;obtain ⟨Al, cl, rfl, _, _, hl⟩ := hl.cases_;obtain ⟨At, ct, rfl, _, _, ht⟩ := ht.cases_;have Hts := lh ht;have Htr := lh (Hto.out _ (List.getElem_mem hb));generalize f.blocks[b] = bk at *;have b0 := nnn b;have b2 : (b : Int) < (f.blocks.length : Int) := by omega
 have hmk := qfh (w.alloc (Obj.cells #[.string f.name, .int .i64 f.params, .int .i64 (n : Int), .slice (some ⟨b1, off, none⟩) f.blocks.length c] 56)) n (by omega);obtain ⟨g, hg⟩ := nmm (w.heap.size + 1);have hsz1 : (w.alloc (Obj.cells #[.string f.name, .int .i64 f.params, .int .i64 (n : Int), .slice (some ⟨b1, off, none⟩) f.blocks.length c] 56)).heap.size = g := by rw [hg]; simp
 obtain ⟨W2, hW2⟩ := nmm ((w.alloc (Obj.cells #[.string f.name, .int .i64 f.params, .int .i64 (n : Int), .slice (some ⟨b1, off, none⟩) f.blocks.length c] 56)).alloc (.cells (bitsA (List.replicate n false)) 4));rw [<- hW2, hsz1] at hmk;have hb2 : Below w.heap.size w W2 := by rw [hW2]; exact bl0
 have HF2 : Hid (W2.heap[w.heap.size]? = some (.cells #[.string f.name, .int .i64 f.params, .int .i64 (n : Int), .slice (some ⟨b1, off, none⟩) f.blocks.length c] 56 (0, 0))) := lh (by rw [hW2]; exact qf (heap_alloc_new _ _) _);have HS2 : Hid (SetAt g (List.replicate n false) W2) := lh (SetAt.of_blk (by rw [hW2, <- hsz1]; exact heap_alloc_new _ _));have Hb2 := lh hb2;have hz2 := hb2.size;have lb : b1 < W2.heap.size := by omega
 have r0 := (hb2.cell (p := ⟨b1, off + b * 6, none⟩) hb1).trans q0;have r1 := (hb2.cell (p := ⟨b1, off + b * 6 + 1, none⟩) hb1).trans q1;have r2 := (hb2.cell (p := ⟨b1, off + b * 6 + 2, none⟩) hb1).trans q2;have r3 := (hb2.cell (p := ⟨b1, off + b * 6 + 3, none⟩) hb1).trans q3;have r4 := (hb2.cell (p := ⟨b1, off + b * 6 + 4, none⟩) hb1).trans q4;have r5 := (hb2.cell (p := ⟨b1, off + b * 6 + 5, none⟩) hb1).trans q5;obtain ⟨e0, e1, e2, e3⟩ := q0j HF2.out;have lF := qa HF2.out;have Hge : Hid (w.heap.size < g) := lh (by omega);have Hg2 := lh HS2.out.lt;clear hW2 hsz1 hb2 hp hl ht q0 q1 q2 q3 q4 q5 hg
 go_enter Tryz.func116, Tryz.ntmps116
 go_wp2;clear e0 e1 e2 e3 r0 r1 r2 r3 r4 r5 hmk
 go_loopg [31] bk.end_.to.length (fun gh s31 wr => ∃ (k : Nat) (S : List Bool), k ≤ bk.end_.to.length ∧ gh = bk.end_.to.length - k ∧ s31 = .int .i64 (k : Int) ∧ Hid (SetAt g S wr) ∧ Hid (S.length = n) ∧ Hid (∀ r, r < n -> bAt S r = (bk.end_.to.take k).any (fun t => bAt (rowV V t.toNat) r)) ∧ Hid (Below w.heap.size w wr) ∧ Hid (wr.heap[w.heap.size]? = some (.cells #[.string f.name, .int .i64 f.params, .int .i64 (n : Int), .slice (some ⟨b1, off, none⟩) f.blocks.length c] 56 (0, 0))))
 case atStart => exact ⟨0, List.replicate n false, Nat.zero_le _, rfl, rfl, lh (HS2.out.alloc _), lh (by simp), lh (fun r _ => by rw [qhz]; rfl), lh (Hb2.out.alloc Hb2.out.size _), lh (qf HF2.out _)⟩
 case round =>
  obtain ⟨k, S, hk, rfl, rfl, HS, Hlen, Hval, Hb, HF⟩ := hrel;clear HS2 Hb2 HF2 Hg2;have hz := Hb.out.size
  by_cases hlt : k < bk.end_.to.length
  ·obtain ⟨bt, ot, rfl, hbt, q0⟩ := Hts.out.int_at hlt;have p0 := (Hb.out.cell (p := ⟨bt, ot + k, none⟩) hbt).trans q0;have hgd : bk.end_.to.getD k 0 = bk.end_.to[k] := by rw [List.getD_eq_getElem?_getD, List.getElem?_eq_getElem hlt]; rfl
   obtain ⟨t, htt, htn⟩ : ∃ t : Nat, bk.end_.to.getD k 0 = (t : Int) ∧ t < f.blocks.length := by
    have := Htr.out bk.end_.to[k] (List.getElem_mem hlt);exact ⟨bk.end_.to[k].toNat, by rw [hgd]; omega, by omega⟩
   rw [htt] at p0
   have Hst : Hid (∀ r, (bk.end_.to.take (k + 1)).any (fun t => bAt (rowV V t.toNat) r) = ((bk.end_.to.take k).any (fun t => bAt (rowV V t.toNat) r) || bAt (rowV V t) r)) := lh fun r => by
    rw [q2u _ hlt, <- hgd, htt];rfl
   obtain ⟨b3, off3, vp2, vl2, vt2, hA3, hb3, hp2, hl2, ht2, s0, s1, s2, s3, s4, s5⟩ := Hs.out.blk_at htn
   cases hA3
   obtain ⟨Ap2, cp2, rfl, _, _, hp2⟩ := hp2.cases_;obtain ⟨Al2, cl2, rfl, _, _, hl2⟩ := hl2.cases_;obtain ⟨At2, ct2, rfl, _, _, ht2⟩ := ht2.cases_;have Hph : Hid (f.blocks[t].phis.length = 0) := lh (by rw [Hnp.out _ (List.getElem_mem htn)]; rfl);generalize f.blocks[t] = bx at *;have r0 := (Hb.out.cell (p := ⟨b1, off + t * 6, none⟩) hb3).trans s0;have r1 := (Hb.out.cell (p := ⟨b1, off + t * 6 + 1, none⟩) hb3).trans s1;have r2 := (Hb.out.cell (p := ⟨b1, off + t * 6 + 2, none⟩) hb3).trans s2;have r3 := (Hb.out.cell (p := ⟨b1, off + t * 6 + 3, none⟩) hb3).trans s3;have r4 := (Hb.out.cell (p := ⟨b1, off + t * 6 + 4, none⟩) hb3).trans s4;have r5 := (Hb.out.cell (p := ⟨b1, off + t * 6 + 5, none⟩) hb3).trans s5;obtain ⟨e0, e1, e2, e3⟩ := q0j HF.out;have lF := qa HF.out;have lb1 : b1 < wr.heap.size := by omega
   have lbt : bt < wr.heap.size := by omega
   obtain ⟨bi, oi, ui, rfl, hbi, i0, hui⟩ := Hi.out.row_at (k := t) (by rw [Hil.out]; exact htn);rw [q7t] at hui;obtain ⟨Au, cu, rfl, _, _, hui⟩ := hui.cases_;have hlT : (rowV V t).length = n := Hrow.out t (by rw [Hil.out]; exact htn);rw [hlT] at hui i0;obtain ⟨ba, oa, ua, rfl, hba, a0, hua⟩ := Ha.out.row_at (k := t) (by rw [Hal.out]; exact htn);obtain ⟨Hui, Hua, Ha0, Hba⟩ := lh4 hui hua a0 hba;have j0 := (Hb.out.cell (p := ⟨bi, oi + t, none⟩) hbi).trans i0;have lbi : bi < wr.heap.size := by omega
   have t1 := nnn t;have t2 : (t : Int) < (f.blocks.length : Int) := by omega
   have k1 := nnn k;have k2 : (k : Int) < (bk.end_.to.length : Int) := by omega
   obtain ⟨Hbbi, HlT⟩ := lh2 hbi hlT;generalize rowV V t = T at *;obtain ⟨gB, hgB⟩ := nmm (wr.heap.size);obtain ⟨W4, hW4⟩ := nmm (wr.alloc (Obj.cells #[.slice Ap2 bx.phis.length cp2, .slice Al2 bx.list.length cl2, .int .i64 bx.end_.kind, .bool bx.end_.on.reg, .int .i64 bx.end_.on.n, .slice At2 bx.end_.to.length ct2] 68));have hbw : Below wr.heap.size wr W4 := by subst hW4; exact bl0
   have HX4 : Hid (W4.heap[gB]? = some (.cells #[.slice Ap2 bx.phis.length cp2, .slice Al2 bx.list.length cl2, .int .i64 bx.end_.kind, .bool bx.end_.on.reg, .int .i64 bx.end_.on.n, .slice At2 bx.end_.to.length ct2] 68 (0, 0))) := lh (by subst hW4 hgB; exact heap_alloc_new _ _);have HF4 := lh ((hbw.block _ lF).trans HF.out);have HS4 := lh (HS.out.below hbw);have Hb4 := btt Hb hbw hz;have j4 := (hbw.cell (p := ⟨bi, oi + t, none⟩) lbi).trans j0;have HW4 := lh hW4.symm;have lbi4 : bi < W4.heap.size := Nat.lt_of_lt_of_le lbi hbw.size;have hgne : gB ≠ g := by have := HS.out.lt; omega
   clear q0 s0 s1 s2 s3 s4 s5 hp2 hl2 ht2 hui hua a0 hba i0 hbi hbw hW4 hlT hgd htt
   go_upto_region 7 with fail
   rw [HW4.out];rw [<- hgB];clear hgB p0 r0 r1 r2 r3 r4 r5 e0 e1 e2 e3 lb1 lbt lF j0 lbi HS Hb HF;go_wp2;clear j4
   go_loopg [45] n (fun gh s45 wx => ∃ (j : Nat) (S' : List Bool), j ≤ n ∧ gh = n - j ∧ s45 = .int .i64 (j : Int) ∧ Hid (SetAt g S' wx) ∧ Hid (S'.length = n) ∧ Hid (∀ r, r < n -> bAt S' r = (bAt S r || (decide (r < j) && bAt T r))) ∧ Hid (Below w.heap.size w wx) ∧ Hid (wx.heap[w.heap.size]? = some (.cells #[.string f.name, .int .i64 f.params, .int .i64 (n : Int), .slice (some ⟨b1, off, none⟩) f.blocks.length c] 56 (0, 0))) ∧ Hid (wx.heap[gB]? = some (.cells #[.slice Ap2 bx.phis.length cp2, .slice Al2 bx.list.length cl2, .int .i64 bx.end_.kind, .bool bx.end_.on.reg, .int .i64 bx.end_.on.n, .slice At2 bx.end_.to.length ct2] 68 (0, 0))))
   case atStart => exact ⟨0, S, Nat.zero_le _, rfl, rfl, HS4, Hlen, lh (fun r _ => by simp), Hb4, HF4, HX4⟩
   case round =>
    obtain ⟨j, S', hj, rfl, rfl, HS', Hlen', Hval', Hb', HF', HX'⟩ := hrel;clear HS4 Hb4 HF4 HX4;have hz' := Hb'.out.size
    by_cases hjn : j < n
    ·obtain ⟨bu, ou, hAu, hbu, c0⟩ := Hui.out.bool_at (k := j) (by rw [HlT.out]; exact hjn);subst hAu;have d0 := (Hb'.out.cell (p := ⟨bu, ou + j, none⟩) hbu).trans c0;have d1 := HS'.out.cell (k := j) (by rw [Hlen'.out]; exact hjn);have f1 := HS'.out.frozen j;have lg := HS'.out.lt;have lbu : bu < wr.heap.size := by omega
     have j1 := nnn j;have j2 : (j : Int) < (n : Int) := by omega
     have hS2 : SetAt g (S'.set j (bAt S' j || bAt T j)) (wr.setCell ⟨g, j, none⟩ (.bool (bAt S' j || bAt T j))) := HS'.out.set j _;have hb2' : Below w.heap.size w (wr.setCell ⟨g, j, none⟩ (.bool (bAt S' j || bAt T j))) := Hb'.out.setCell (p := ⟨g, j, none⟩) (by have := Hge.out; show w.heap.size ≤ g; omega) _;have hF2' : (wr.setCell ⟨g, j, none⟩ (.bool (bAt S' j || bAt T j))).heap[w.heap.size]? = some (.cells #[.string f.name, .int .i64 f.params, .int .i64 (n : Int), .slice (some ⟨b1, off, none⟩) f.blocks.length c] 56 (0, 0)) := (Below.heap_setCell _ _ _ _ (by have := Hge.out; show w.heap.size ≠ g; omega)).trans HF'.out;have hX2' : (wr.setCell ⟨g, j, none⟩ (.bool (bAt S' j || bAt T j))).heap[gB]? = some (.cells #[.slice Ap2 bx.phis.length cp2, .slice Al2 bx.list.length cl2, .int .i64 bx.end_.kind, .bool bx.end_.on.reg, .int .i64 bx.end_.on.n, .slice At2 bx.end_.to.length ct2] 68 (0, 0)) := (Below.heap_setCell _ _ _ _ hgne).trans HX'.out
     have hv2 : ∀ r, r < n -> bAt (S'.set j (bAt S' j || bAt T j)) r = (bAt S r || (decide (r < j + 1) && bAt T r)) := fun r hr => by
      rw [q85 (by rw [Hlen'.out]; exact hjn)]
      by_cases e : r = j
      ·subst e;rw [if_pos rfl, Hval'.out r hr];simp
      ·rw [if_neg e, Hval'.out r hr]
       by_cases e2 : r < j
       ·simp [e2, show r < j + 1 from by omega]
       ·simp [e2, show ¬ r < j + 1 from by omega]
     obtain ⟨HS3, Hb3, HF3, HX3, Hv3⟩ := lh5 hS2 hb2' hF2' hX2' hv2;have Hl3 : Hid ((S'.set j (bAt S' j || bAt T j)).length = n) := lh (by rw [List.length_set]; exact Hlen'.out);generalize hx : bAt S' j = x at *;generalize hy : bAt T j = y at *;clear c0 hS2 hb2' hF2' hX2' hv2 hbu hx hy
     cases x
     ·cases y
      ·go_wp2
       go_roundg (n - (j + 1))
       case measure => omega
       case rel => exact ⟨j + 1, _, by omega, rfl, by go_num, HS3, Hl3, Hv3, Hb3, HF3, HX3⟩
      ·go_wp2
       go_roundg (n - (j + 1))
       case measure => omega
       case rel => exact ⟨j + 1, _, by omega, rfl, by go_num, HS3, Hl3, Hv3, Hb3, HF3, HX3⟩
     ·go_wp2
      go_roundg (n - (j + 1))
      case measure => omega
      case rel => exact ⟨j + 1, _, by omega, rfl, by go_num, HS3, Hl3, Hv3, Hb3, HF3, HX3⟩
    ·obtain rfl : j = n := by omega
     have j2 : ¬ ((j : Int) < (j : Int)) := by omega
     have Hfin : Hid (∀ r, r < j -> bAt S' r = (bk.end_.to.take (k + 1)).any (fun t => bAt (rowV V t.toNat) r)) := lh fun r hr => by
      rw [Hst.out, Hval'.out r hr, Hval.out r hr, decide_eq_true hr, Bool.true_and]
     obtain ⟨Au2, cu2, hUa, _, _, hua⟩ := Hua.out.cases_;subst hUa;have m0 := (Hb'.out.cell (p := ⟨ba, oa + t, none⟩) Hba.out).trans Ha0.out;have lba : ba < wr.heap.size := by have := Hba.out; omega
     have Hidx := lh (hua.up Hb'.out hz');obtain ⟨x0, x1, x2, x3, x4, x5⟩ := q1d HX'.out;have lX := qa HX'.out;clear hua
     go_wp2_with fail
     refine qc4 _ _ _ _ Hidx.out _ (fun ri => ?_);rw [Hph.out] at x0;go_wp2
     go_loopg [70] 0 (fun gh s70 wy => s70 = .int .i64 0 ∧ wy = wr)
     case atStart => exact ⟨rfl, rfl⟩
     case round =>
      obtain ⟨rfl, rfl⟩ := hrel;go_wp2
      go_roundg (bk.end_.to.length - (k + 1))
      case measure => omega
      case rel => exact ⟨k + 1, S', by omega, rfl, by go_num, HS', Hlen', Hfin, Hb', HF'⟩
  ·obtain rfl : k = bk.end_.to.length := by omega
   have k2 : ¬ ((bk.end_.to.length : Int) < (bk.end_.to.length : Int)) := by omega
   have Hfin := lh (HR.out wr g S Hb.out (Nat.le_of_lt Hge.out) HS.out Hlen.out (fun r hr => by rw [Hval.out r hr, List.take_length]; rfl));go_wp2;exact Hfin.out
theorem qnh (xs : List Bool) : ∀ u ∈ xs.flatMap q2v, u.oneCell' = true := by
 intro u hu;obtain ⟨m, _, hm⟩ := List.mem_flatMap.1 hu;simp [q2v] at hm;subst hm;rfl
def setTo (S : List Bool) (k : Nat) : List Int := ((List.range k).filter fun r => bAt S r).map fun r : Nat => (r : Int)
def setL (S : List Bool) : List Int := setTo S S.length
theorem qa3 (S : List Bool) (k : Nat) : setTo S (k + 1) = setTo S k ++ (if bAt S k = true then [(k : Int)] else []) := by
 unfold setTo;rw [List.range_succ, List.filter_append, List.map_append]
 congr 1
 by_cases h : bAt S k = true <;> simp [h]
theorem qk2 (S : List Bool) (k : Nat) : (setTo S k).length ≤ k := by
 unfold setTo;rw [List.length_map];exact Nat.le_trans (List.length_filter_le _ _) (by simp)
theorem qgw (S : List Bool) (v : Value) (w : World) (h : rpBool.SL w w.heap.size S v) (hn : S.length ≤ 100) (R : Ending -> World -> Prop)
 (hR : ∀ w' v', Below w.heap.size w w' -> w'.ownsRow w.heap.size 3 1 v' (setL S).length ((setL S).flatMap qh) -> R (.returned v') w') :
 Calls Tryz.prog 121 #[v] w R := by
 obtain ⟨A, c, rfl, hm, _, h⟩ := h.cases_;obtain ⟨HR, H⟩ := lh2 hR h;clear hR h
 go_enter Tryz.func121, Tryz.ntmps121
 go_wp2
 go_loopg [3, 8] S.length (fun g s3 s8 wr => ∃ k : Nat, k ≤ S.length ∧ g = S.length - k ∧ s8 = .int .i64 (k : Int) ∧ Hid (wr.ownsRow w.heap.size 3 1 s3 (setTo S k).length ((setTo S k).flatMap qh)) ∧ Hid (Below w.heap.size w wr))
 case atStart => exact ⟨0, Nat.zero_le _, rfl, rfl, lh (World.ownsRow_nil _ _ _ _), lh bl0⟩
 case round =>
  obtain ⟨k, hk, rfl, rfl, Ho, Hb⟩ := hrel;have i1 := nnn k;have hz := Hb.out.size;obtain ⟨A6, c6, hs6⟩ := qj Ho.out;subst hs6
  by_cases hlt : k < S.length
  ·obtain ⟨b, off, rfl, hb, q0⟩ := H.out.bool_at hlt;have p0 := (Hb.out.cell (p := ⟨b, off + k, none⟩) hb).trans q0;have lb : b < wr.heap.size := by omega
   have i2 : (k : Int) < (S.length : Int) := by omega
   have Hst := lh (qa3 S k);have hfw : (setTo S k).length ≤ 100 := Nat.le_trans (qk2 S k) (by omega);generalize setTo S k = X at *
   cases hx : bAt S k
   ·rw [hx] at p0 Hst;clear q0 hx;have HX : Hid (setTo S (k + 1) = X) := lh (by rw [Hst.out]; simp);go_wp2
    go_roundg (S.length - (k + 1))
    case measure => omega
    case rel => exact ⟨k + 1, hlt, rfl, by go_num, by rw [HX.out]; exact Ho, Hb⟩
   ·rw [hx] at p0 Hst;clear q0 hx;have HX : Hid (setTo S (k + 1) = X ++ [(k : Int)]) := lh (by rw [Hst.out]; simp);have Hfw := lh hfw;have hgr : w.heap.size ≤ (wr.alloc (Obj.cells #[.int .i64 (k : Int)] 3)).heap.size := by simp; omega
    have Hbal := lh (Hb.out.alloc hz (Obj.cells #[.int .i64 (k : Int)] 3));have Hlo : Hid (∀ j, (Value.slice A6 X.length c6).ownBlock = some j -> w.heap.size ≤ j) := lh fun j e => (Ho.out.lt j e).1;clear hfw
    go_wp2_with (at_builtin; refine qae rfl _ _ rfl (v := .slice A6 X.length c6) rfl (Ho.out.alloc _) wr.heap.size (k : Int) rfl (heap_alloc_new _ _) Hfw.out hgr ?_)
    intro v7 w7 hown7 hg7 hat7;have hown8 : w7.ownsRow w.heap.size 3 1 v7 (X ++ [(k : Int)]).length ((X ++ [(k : Int)]).flatMap qh) := by simpa using hown7
    have hb7 := Hbal.out.trans ((Grew.of_grown hg7).below (B := w.heap.size) (fun j hj e => by have := Hlo.out j e; omega) (by simp; omega));obtain ⟨Hown8, Hb7⟩ := lh2 hown8 hb7;clear hown7 hg7 hat7 hown8 hb7;go_wp2
    go_roundg (S.length - (k + 1))
    case measure => omega
    case rel => exact ⟨k + 1, hlt, rfl, by go_num, by rw [HX.out]; exact Hown8, Hb7⟩
  ·obtain rfl : k = S.length := by omega
   have Hfin := lh (HR.out _ _ Hb.out Ho.out);have i2 : ¬ ((S.length : Int) < (S.length : Int)) := by omega
   go_wp2;exact Hfin.out
def q4d (V : List (List Bool)) (k : Nat) : List (List Int) := (V.take k).map setL
theorem qcb {V : List (List Bool)} {k : Nat} (h : k < V.length) : q4d V (k + 1) = q4d V k ++ [setL V[k]] := by
 unfold q4d;rw [List.take_succ_eq_append_getElem h, List.map_append];rfl
theorem qe4 {V : List (List Bool)} {k : Nat} (h : k ≤ V.length) : (q4d V k).length = k := by
 unfold q4d;rw [List.length_map, List.length_take];omega
theorem q8m (V : List (List Bool)) (v : Value) (w : World) (h : rpBool.slice.SL w w.heap.size V v) (hn : V.length ≤ 100) (hr : ∀ S ∈ V, S.length ≤ 100) (R : Ending -> World -> Prop)
 (hR : ∀ w' v', Below w.heap.size w w' -> rpInt.slice.SLF w' w.heap.size w'.heap.size (V.map setL) v' -> R (.returned v') w') :
 Calls Tryz.prog 91 #[v] w R := by
 obtain ⟨iC, hiC, zC0, zC1, zC2⟩ := info_parts q72;obtain ⟨A, c, rfl, hm, _, h⟩ := h.cases_;obtain ⟨HR, H, Hr⟩ := lh3 hR h hr;clear hR h hr
 go_enter Tryz.func91, Tryz.ntmps91
 go_wp2
 go_loopg [3, 8] V.length (fun gh s3 s8 wr => ∃ (k : Nat) (css : List (List Value)), k ≤ V.length ∧ gh = V.length - k ∧ s8 = .int .i64 (k : Int) ∧ Hid (Built rpInt.slice w.heap.size 26 (fun b => b < w.heap.size) wr s3 (q4d V k) css) ∧ Hid (Below w.heap.size w wr))
 case atStart => exact ⟨0, [], Nat.zero_le _, rfl, rfl, lh (Built.nil _ _ _ _ _ (fun _ h => h)), lh (Below.refl _ _)⟩
 case round =>
  obtain ⟨k, css, hk, rfl, rfl, Hbu, Hbel⟩ := hrel;have hz2 := Hbel.out.size;obtain ⟨A6, n6, hs6⟩ := qj Hbu.out.own;subst hs6
  by_cases hlt : k < V.length
  ·obtain ⟨bi, oi, ui, rfl, hbi, i0, hui⟩ := H.out.row_at hlt;obtain ⟨Au, cu, rfl, _, _, hui⟩ := hui.cases_;have j0 := (Hbel.out.cell (p := ⟨bi, oi + k, none⟩) hbi).trans i0;have lbi : bi < wr.heap.size := by omega
   have hS : V[k].length ≤ 100 := Hr.out _ (List.getElem_mem hlt);have Hui := lh (hui.up Hbel.out hz2);have Hst := lh (qcb hlt);have Hll := lh (qe4 (V := V) (k := k) hk);generalize V[k] = S at *;generalize q4d V k = LT at *;rw [Hll.out] at Hbu;rw [Hll.out];have i1 : (0 : Int) ≤ (k : Int) := by omega
   have i2 : (k : Int) < (V.length : Int) := by omega
   clear hui i0 hbi
   go_wp2_with fail
   refine qgw S _ _ Hui.out hS _ (fun w5 v5 hb5 hown5 => ?_);generalize setL S = L at *;obtain ⟨A5, c5, rfl⟩ := qj hown5;have Ho5 := lh hown5;have hlr := Hbu.out.own.lt;have Hlr := lh hlr;have hz5 := hb5.size;have HBu5 := lh ((Hbu.out.below hb5 (Nat.le_refl _)).alloc (Obj.cells #[.slice A5 L.length c5] 26));have Hap : Hid (Apart rpInt.slice (fun b => b < w.heap.size) (w5.alloc (Obj.cells #[.slice A5 L.length c5] 26)) (.slice A6 k n6) L [.slice A5 L.length c5]) := lh (Apart.of_only (base := wr.heap.size) ⟨_, rfl, q4n (q4v (Ho5.out.alloc _)) (by rw [q47]; exact Nat.le_refl _)⟩ (fun k (h : k < w.heap.size) => by omega) (fun g hg => by have := (Hlr.out g hg).2; omega));have Hbel5 := btt Hbel hb5 hz2;clear hb5 hown5 hlr j0;have hwz5 : w.heap.size ≤ w5.heap.size := by omega
   go_wp2_with (at_builtin; refine wpList_append_lies _ rfl _ _ 87 rfl w.heap.size 26 iC _ 1 24 Tryz.underlying87 hiC zC0 zC1 zC2 rfl (by decide) (.slice A6 k n6) k css.flatten rfl (by have := HBu5.out.own; rw [Hll.out] at this; exact this) ⟨w5.heap.size, 0, none⟩ 1 1 [.slice A5 L.length c5] rfl rfl ?_ ?_ (by decide) ?_ ?_ ?_ _ rfl ?_)
   any_goals (first | with_reducible exact World.news_of_block (cs := #[.slice A5 L.length c5]) (t := 26) (fr := (0, 0)) (heap_alloc_new _ _) | (simp [Value.oneCell']; done) | (unfold maxLen; omega) | omega | (simp; done) | (simp; omega))
   intro gb cap w9 hown9 hgrow9 hat9 hlt9;have HB9 := lh (HBu5.out.push hown9 (by rw [Hll.out]) hgrow9 (by simpa using hat9) Hap.out);have Hbel9 := lh ((Hbel5.out.alloc hwz5 _).trans ((Grew.of_grown hgrow9).below (B := w.heap.size) (fun j hj e => by have := (Hlr.out j e).1; omega) (by simp; omega)));clear hown9 hgrow9 hat9 hlt9;go_wp2
   go_roundg (V.length - (k + 1))
   case measure => omega
   case rel => exact ⟨k + 1, _, by omega, rfl, by go_num, by rw [Hst.out]; exact HB9, Hbel9⟩
  ·obtain rfl : k = V.length := by omega
   have Hfin := lh (HR.out _ _ Hbel.out (by
    have := Hbu.out.SLF (b := w.heap.size) (B := wr.heap.size) (fun k hk => hk) (by omega) (Nat.le_refl _);unfold q4d at this
    rwa [List.take_length] at this))
   have i2 : ¬ ((V.length : Int) < (V.length : Int)) := by omega
   go_wp2;simpa [q4d] using Hfin.out
end Go.Proofs.YtdanebboiekieaaGreatDoor
namespace Go.Proofs.YtdanebboiekieaaGreatDoor
open Go.RowKit
open Go.Maps Go.WideShapes Go.MapKept Go.ChangeMaps Go.ChangeShapes
def SetR (w : World) (B r : Nat) (X Lf : Int -> Bool) (cnt : Nat) : Prop :=
 ∃ (D : DataW Value) (l : List Int) (left : Lit -> Bool), w.ranges Tryz.prog 3 unitElem B r l.length D left cnt ∧ (∀ x, Maps.has D (.int .i64 x) = X x) ∧ (l.Nodup ∧ (∀ x, x ∈ l ↔ X x = true) ∧ l.length = Maps.size D ∧ ∀ x, X x = true -> 0 ≤ x ∧ x < 100) ∧ (∀ x, left (.int .i64 x) = Lf x) ∧ ∀ x, Lf x = true -> X x = true
theorem SetR.set {w : World} {B r : Nat} {X Lf : Int -> Bool} {cnt : Nat} (h : SetR w B r X Lf cnt) : SetM w B X := by
 obtain ⟨D, l, left, h1, h2, h3, _⟩ := h;exact ⟨D, l, h1.owns, h2, h3⟩
theorem SetR.kept {w w' : World} {B r : Nat} {X Lf : Int -> Bool} {cnt : Nat} {row : Option Nat} (h : SetR w B r X Lf cnt) (hg : w.grownBy w' row) (hb : some B ≠ row) (hr : some r ≠ row) : SetR w' B r X Lf cnt := by
 obtain ⟨D, l, left, h1, h2⟩ := h;exact ⟨D, l, left, h1.kept hg hb hr, h2⟩
theorem SetR.lt {w : World} {B r : Nat} {X Lf : Int -> Bool} {cnt : Nat} (h : SetR w B r X Lf cnt) : r < w.heap.size := by
 obtain ⟨D, l, left, h1, _⟩ := h;exact h1.lt
theorem qec (x y : Int) : (Lit.int .i64 x).sameKey (.int .i64 y) = decide (x = y) := by
 simp [Lit.sameKey]
theorem q4h {w : World} {ops : Array Oper} {rest : List Oper} {o : Oper} {a : Act} {Q : Exit -> Act -> World -> Prop} (hg : o.guard = none) (m : Operand) (t : TypeId) (hop : o.op = Op.range t m) (ht : Tryz.prog.underlying t = some (.map 3 117))
 (B : Nat) (X : Int -> Bool) (hm : a.eval m = .map (some B)) (h : SetM w B X)
 (hK : ∀ w' cnt, SetR w' B w.heap.size X X cnt -> w.grownBy w' none -> w'.heap.size = w.heap.size + 1 -> wpList Tryz.prog ops Q rest (a.put o.dst (.pointer (some ⟨w.heap.size, 0, none⟩))) w') :
 wpList Tryz.prog ops Q (o :: rest) a w := by
 obtain ⟨D, l, h1, h2, h3⟩ := h;exact wpList_range_own w hg m t hop 3 117 lawI ht unitElem B l.length D hm h1 fun w' r1 r2 r3 => hK w' _ ⟨D, l, _, r1, h2, h3, fun x => h2 x, fun x hx => hx⟩ r2 r3
theorem q50 {w : World} {ops : Array Oper} {rest : List Oper} {o : Oper} {a : Act} {Q : Exit -> Act -> World -> Prop} (hg : o.guard = none) (it : Operand) (hop : o.op = Op.next it false)
 (B r : Nat) (X Lf : Int -> Bool) (cnt : Nat) (hit : a.eval it = .pointer (some ⟨r, 0, none⟩)) (h : SetR w B r X Lf cnt)
 (hDone : (∀ x, Lf x = false) -> wpList Tryz.prog ops Q rest (a.put o.dst (.tuple #[.bool false])) w)
 (hMore : ∀ (x : Int) (w' : World) (cnt' : Nat), Lf x = true -> (0 ≤ x ∧ x < 100) -> SetR w' B r X (fun z => Lf z && !decide (z = x)) cnt' -> cnt' < cnt -> w.grownBy w' (some r) -> w'.heap.size = w.heap.size ->
  (Instr.entry (.pointer (some ⟨r, 0, none⟩))).run Tryz.prog w' = .ok (.tuple #[.int .i64 x, .agg #[]]) w' -> wpList Tryz.prog ops Q rest (a.put o.dst (.tuple #[.bool true, .int .i64 x, .agg #[]])) w') :
 wpList Tryz.prog ops Q (o :: rest) a w := by
 obtain ⟨D, l, left, h1, h2, h3, h4, h5⟩ := h
 refine wpList_next_ranges (α := Int) (β := Unit) w hg it hop 3 lawI unitElem (Value.int .i64) (fun _ => .agg #[]) (fun key kl hk => ?_) (fun v y hv => ⟨(), (unitElem_inv hv).1⟩) B r l.length D left cnt hit h1
  (fun _ hl => hDone fun x => by rw [<- h4]; exact hl _) (fun x c kl y w' cnt' hkey hlk hv hat hrg hlt hgr hsz hen => ?_)
 ·obtain ⟨x, rfl, _⟩ := Maps.keyOf_int_inv Tryz.underlying3 hk;exact ⟨x, rfl⟩
 ·obtain ⟨x', ex, rfl, _⟩ := Maps.keyOf_int_inv Tryz.underlying3 hkey
  cases ex
  have hL : Lf x = true := by rw [<- h4]; exact hlk
  refine hMore x w' cnt' hL (h3.2.2.2 x (h5 x hL)) ⟨D, l, _, hrg, h2, h3, fun z => ?_, fun z hz => ?_⟩ hlt hgr hsz hen
  ·dsimp only;rw [h4, qec]
  ·rw [Bool.and_eq_true] at hz;exact h5 z hz.1
theorem q5x {w : World} {ops : Array Oper} {rest : List Oper} {o : Oper} {a : Act} {Q : Exit -> Act -> World -> Prop} (hg : o.guard = none) (m x v : Operand) (hop : o.op = Op.mapUpdate 116 m x v)
 (B : Nat) (X : Int -> Bool) (z : Int) (hm : a.eval m = .map (some B)) (hx : a.eval x = .int .i64 z) (hv : a.eval v = .agg #[]) (hz : 0 ≤ z ∧ z < 100) (h : SetM w B X)
 (hK : ∀ w', SetM w' B (q1g X z) -> w.mapTurned w' B -> wpList Tryz.prog ops Q rest (a.put o.dst undef) w') :
 wpList Tryz.prog ops Q (o :: rest) a w := by
 refine wpList_plain hg fun K' hK' => ?_;obtain ⟨w', hrun, r1, r2⟩ := h.put hz;unfold Oper.wp;simp [execOp, hop, hm, hx, hv, hrun, Result.andThen];exact hK' _ _ (hK w' r1 r2)
def q1k (X : Int -> Bool) (v : UVal) : Int -> Bool := if v.reg = true then q1g X v.n else X
theorem qcq (v : UVal) (B : Nat) (X : Int -> Bool) (w : World) (h : SetM w B X) (hv : v.reg = true -> 0 ≤ v.n ∧ v.n < 100) (R : Ending -> World -> Prop)
 (hR : ∀ w', SetM w' B (q1k X v) -> w.grownBy w' (some B) -> R (.returned (.tuple #[])) w') :
 Calls Tryz.prog 97 #[.map (some B), .agg #[.bool v.reg, .int .i64 v.n]] w R := by
 obtain ⟨HR, H⟩ := lh2 hR h;clear hR h;have HA := lh (H.out.below ((Below.refl w.heap.size w).alloc (Nat.le_refl _) (Obj.cells #[.bool v.reg, .int .i64 v.n] 64)));have HG := lh (World.grownBy_alloc w (Obj.cells #[.bool v.reg, .int .i64 v.n] 64) (some B));unfold q1k at HR
 cases hr : v.reg
 ·rw [hr] at HR HA HG;rw [if_neg (by decide)] at HR;clear hr
  go_enter Tryz.func97, Tryz.ntmps97
  go_wp2;refine bodyPost_ret (results_none rfl _ _ _) rfl ?_;exact HR.out _ HA.out HG.out
 ·rw [hr] at HR HA HG;rw [if_pos rfl] at HR;have hz := hv hr;clear hr
  go_enter Tryz.func97, Tryz.ntmps97
  go_wp2_with (at_mapUpdate; refine q5x rfl _ _ _ rfl B X v.n rfl rfl rfl hz HA.out ?_)
  intro w2 hs2 ht2;obtain ⟨HS, HT⟩ := lh2 hs2 ht2;clear hs2 ht2;go_wp2;refine bodyPost_ret (results_none rfl _ _ _) rfl ?_;exact HR.out _ HS.out (HG.out.trans HT.out.grown)
end Go.Proofs.YtdanebboiekieaaGreatDoor
namespace Go.Proofs.YtdanebboiekieaaGreatDoor
open Go.RowKit
def insN (X : Int -> Bool) (x : UIns) : Int -> Bool := (qn x).foldl q1k (q3l X x.dst)
theorem q5v : ∀ (l : List UVal) (X : Int -> Bool) (z : Int), (l.foldl q1k X) z = (X z || l.any fun v => isR v z)
 | [], X, z => by simp
 | v :: l, X, z => by
   rw [List.foldl_cons, q5v l, List.any_cons];unfold q1k isR
   cases hv : v.reg
   ·simp
   ·simp only [if_true, Bool.true_and, q1g, Bool.or_assoc]
    congr 2
    simp [eq_comm]
theorem qn9 (X : Int -> Bool) (x : UIns) (z : Int) : insN X x z = ((X z && !decide (z = x.dst)) || (qn x).any fun v => isR v z) := by
 unfold insN;rw [q5v];rfl
theorem qix {u : Unt} {f : UFun} {L : Nat -> Nat -> Int -> Bool} (hL : ∀ i k r, L i k r = true ↔ LvI f r i k) {regs : Int} {i m : Nat} {b : UBlk} {x : UIns} (hb : f.blocks[i]? = some b) (hx : b.list[m]? = some x) (hi : InsOk u regs x) : insN (L i (m + 1)) x = L i m := by
 funext z
 rw [Bool.eq_iff_iff, qn9, hL, Bool.or_eq_true, Bool.and_eq_true, hL]
 constructor
 ·rintro (⟨⟨r, rfl, h1⟩, h2⟩ | h)
  ·refine ⟨r, rfl, (qfg hb hx).2 (.inr ⟨fun e => ?_, h1⟩)⟩;rw [e] at h2;simp at h2
  ·obtain ⟨v, hv, h⟩ := List.any_eq_true.1 h;have hok := q49 hi v hv;unfold isR at h;rw [Bool.and_eq_true, decide_eq_true_eq] at h;have h0 := hok h.1;refine ⟨z.toNat, by omega, (qfg hb hx).2 (.inl ?_)⟩;rw [<- q76 hi];refine List.any_eq_true.2 ⟨v, hv, ?_⟩;unfold regIs;rw [h.1, Bool.true_and, decide_eq_true_eq];omega
 ·rintro ⟨r, rfl, h⟩
  rcases (qfg hb hx).1 h with h | ⟨h1, h2⟩
  ·right
   rw [<- q76 hi] at h;exact h
  ·left
   refine ⟨⟨r, rfl, h2⟩, ?_⟩;simp only [Bool.not_eq_true', decide_eq_false_iff_not];exact fun e => h1 e.symm
theorem qlb {u : Unt} {f : UFun} {L : Nat -> Nat -> Int -> Bool} (hL : ∀ i k r, L i k r = true ↔ LvI f r i k) (hf : FunOk u f) {n : Nat} (hn : f.regs = (n : Int)) {i : Nat} {b : UBlk} (hb : f.blocks[i]? = some b) {X : Int -> Bool} (hX : ∀ z, X z = true ↔ ∃ r : Nat, z = (r : Int) ∧ r < n ∧ Bh f r i) : q1k X b.end_.on = L i b.list.length := by
 funext z
 have hon := hf.on b (List.mem_of_getElem? hb);have e : q1k X b.end_.on z = (X z || [b.end_.on].any fun v => isR v z) := q5v [b.end_.on] X z;rw [Bool.eq_iff_iff, e, hL, Bool.or_eq_true, hX];simp only [List.any_cons, List.any_nil, Bool.or_false]
 constructor
 ·rintro (⟨r, rfl, h1, h2⟩ | h)
  ·exact ⟨r, rfl, (qj3 hb).2 (.inr h2)⟩
  ·unfold isR at h;rw [Bool.and_eq_true, decide_eq_true_eq] at h;have h0 := hon h.1;refine ⟨z.toNat, by omega, (qj3 hb).2 (.inl ?_)⟩;unfold regIs;rw [h.1, Bool.true_and, decide_eq_true_eq];omega
 ·rintro ⟨r, rfl, h⟩;have hlt := qlq hf h
  rcases (qj3 hb).1 h with h | h
  ·exact .inr h
  ·exact .inl ⟨r, rfl, by omega, h⟩
section
variable {St : Type} (upd : St -> UIns -> (Int -> Bool) -> St)
def stepU (p : St × (Int -> Bool)) (x : UIns) : St × (Int -> Bool) := (upd p.1 x p.2, insN p.2 x)
def runB (l : List UIns) (L : Nat -> Int -> Bool) : Nat -> St -> St
 | 0, σ => σ
 | m + 1, σ => runB l L m (match l[m]? with | some x => upd σ x (L (m + 1)) | none => σ)
def runF (bs : List UBlk) (L : Nat -> Nat -> Int -> Bool) : Nat -> St -> St
 | 0, σ => σ
 | b + 1, σ => match bs[b]? with | some blk => runB upd blk.list (L b) blk.list.length (runF bs L b σ) | none => runF bs L b σ
theorem qfo {l : List UIns} {L : Nat -> Int -> Bool} (hs : ∀ m x, l[m]? = some x -> insN (L (m + 1)) x = L m) : ∀ k, k ≤ l.length -> ∀ σ, (l.take k).reverse.foldl (stepU upd) (σ, L k) = (runB upd l L k σ, L 0)
 | 0, _, σ => by simp [runB]
 | k + 1, h, σ => by
   have hk : k < l.length := by omega
   rw [List.take_succ_eq_append_getElem hk, List.reverse_append, List.reverse_singleton, List.singleton_append, List.foldl_cons];have hx : l[k]? = some l[k] := List.getElem?_eq_getElem hk
   have e : stepU upd (σ, L (k + 1)) l[k] = (upd σ l[k] (L (k + 1)), L k) := by
    unfold stepU;rw [hs k _ hx]
   rw [e, qfo hs k (by omega)];simp only [runB, hx]
theorem qno {l : List UIns} {L : Nat -> Int -> Bool} (hs : ∀ m x, l[m]? = some x -> insN (L (m + 1)) x = L m) (σ : St) : l.reverse.foldl (stepU upd) (σ, L l.length) = (runB upd l L l.length σ, L 0) := by
 have := qfo upd hs l.length (Nat.le_refl _) σ
 rwa [List.take_length] at this
theorem q8w {bs : List UBlk} {L : Nat -> Nat -> Int -> Bool} {b : Nat} {blk : UBlk} (h : bs[b]? = some blk) (σ : St) : runF upd bs L (b + 1) σ = runB upd blk.list (L b) blk.list.length (runF upd bs L b σ) := by
 simp only [runF, h]
end
end Go.Proofs.YtdanebboiekieaaGreatDoor
namespace Go.Proofs.YtdanebboiekieaaGreatDoor
open Go.RowKit
theorem q6m {V : List (List Bool)} {i k : Nat} {S : List Bool} (h : i < V.length) : rowV (V.set i S) k = if k = i then S else rowV V k := by
 unfold rowV;rw [List.getD_eq_getElem?_getD, List.getD_eq_getElem?_getD, List.getElem?_set]
 by_cases e : i = k
 ·subst e;rw [if_pos rfl, if_pos h, if_pos rfl];rfl
 ·rw [if_neg e, if_neg (fun x => e x.symm)]
def lackS (S : List Bool) : Nat := (S.map fun b => if b = true then 0 else 1).sum
def lackV (V : List (List Bool)) : Nat := (V.map lackS).sum
theorem qfd : ∀ {S T : List Bool}, S.length = T.length -> (∀ k, k < S.length -> bAt S k = true -> bAt T k = true) -> lackS T ≤ lackS S ∧ (S ≠ T -> lackS T < lackS S)
 | [], [], _, _ => ⟨Nat.le_refl _, fun h => absurd rfl h⟩
 | x :: S, y :: T, hl, h => by
   have h0 := h 0 (by simp);simp [bAt] at h0
   have ih := qfd (S := S) (T := T) (by simpa using hl) (fun k hk hb => by
    have := h (k + 1) (by simp; omega);simp [bAt] at this hb ⊢;exact this hb)
   simp only [lackS, List.map_cons, List.sum_cons] at ih ⊢;refine ⟨?_, fun hne => ?_⟩
   ·cases x <;> cases y <;> simp_all <;> omega
   ·by_cases e : x = y
    ·subst e;have := ih.2 (fun e2 => hne (by rw [e2]));omega
    ·cases x <;> cases y <;> simp_all <;> omega
theorem qca : ∀ {V : List (List Bool)} {i : Nat} {S : List Bool}, i < V.length -> lackS S < lackS (rowV V i) -> lackV (V.set i S) < lackV V
 | T :: V, 0, S, _, h => by
   simp [rowV] at h;simp [lackV];omega
 | T :: V, i + 1, S, hi, h => by
   have := qca (V := V) (i := i) (S := S) (by simpa using hi) (by simpa [rowV] using h);simp [lackV] at this ⊢;omega
def colV (V : List (List Bool)) (r : Nat) (i : Nat) : Bool := bAt (rowV V i) r
structure GoodAll (f : UFun) (n : Nat) (V : List (List Bool)) : Prop where
 len : V.length = f.blocks.length
 rows : ∀ i, i < V.length -> (rowV V i).length = n
 good : ∀ r, r < n -> GoodL (stepB f r) (fun i => Lv f r i 0) (colV V r)
theorem GoodAll.first {f : UFun} {n : Nat} : GoodAll f n (List.replicate f.blocks.length (List.replicate n false)) := by
 have e : ∀ i r, colV (List.replicate f.blocks.length (List.replicate n false)) r i = false := fun i r => by
  unfold colV rowV;rw [List.getD_eq_getElem?_getD, List.getElem?_replicate]
  split
  ·exact qhz _ _
  ·rfl
 refine ⟨by simp, fun i hi => ?_, fun r _ => GoodL.first fun i => e i r⟩;unfold rowV;rw [List.getD_eq_getElem?_getD, List.getElem?_replicate, if_pos (by simpa using hi)];simp
theorem GoodAll.step {f : UFun} {n : Nat} {V : List (List Bool)} (h : GoodAll f n V) {b : Nat} (hb : b < f.blocks.length) {S : List Bool} (hl : S.length = n) (hS : ∀ r, r < n -> bAt S r = stepB f r (colV V r) b) : GoodAll f n (V.set b S) := by
 have hbV : b < V.length := by rw [h.len]; exact hb
 refine ⟨by rw [List.length_set]; exact h.len, fun i hi => ?_, fun r hr => ?_⟩
 ·rw [List.length_set] at hi;rw [q6m hbV]
  split
  ·exact hl
  ·exact h.rows i hi
 ·refine (h.good r hr).step (qkk f r) (i := b) ?_ fun j hj => ?_
  ·show bAt (rowV (V.set b S) b) r = _;rw [q6m hbV, if_pos rfl];exact hS r hr
  ·show bAt (rowV (V.set b S) j) r = bAt (rowV V j) r;rw [q6m hbV, if_neg hj]
theorem GoodAll.less {f : UFun} {n : Nat} {V : List (List Bool)} (h : GoodAll f n V) {b : Nat} (hb : b < f.blocks.length) {S : List Bool} (hl : S.length = n) (hS : ∀ r, r < n -> bAt S r = stepB f r (colV V r) b) (hne : S ≠ rowV V b) : lackV (V.set b S) < lackV V := by
 have hbV : b < V.length := by rw [h.len]; exact hb
 refine qca hbV ((qfd (by rw [h.rows b hbV, hl]) (fun k hk hx => ?_)).2 (fun e => hne e.symm));rw [h.rows b hbV] at hk;rw [hS k hk];exact (h.good k hk).grow b hx
theorem GoodAll.done {f : UFun} {n : Nat} {V : List (List Bool)} (h : GoodAll f n V) (hc : ∀ b, b < f.blocks.length -> ∀ r, r < n -> stepB f r (colV V r) b = bAt (rowV V b) r) {r : Nat} (hr : r < n) (i : Nat) : bAt (rowV V i) r = true ↔ Lv f r i 0 := by
 refine (h.good r hr).done (qkk f r) (fun j hj => ?_) i
 rcases Nat.lt_or_ge j f.blocks.length with hl | hl
 ·have := hc j hl r hr
  show bAt (rowV V j) r = true;rw [<- this];exact hj
 ·unfold stepB at hj;rw [List.getElem?_eq_none hl] at hj
  cases hj
theorem qep {u : Unt} {n : Nat} : ∀ (l : List UIns) (S : List Bool), (∀ x ∈ l, InsOk u n x) -> S.length = n -> (l.reverse.foldl insS S).length = n ∧ ∀ r, r < n -> bAt (l.reverse.foldl insS S) r = q39 l (bAt S r) r
 | [], S, _, hS => ⟨hS, fun r _ => rfl⟩
 | x :: l, S, hx, hS => by
   obtain ⟨h1, h2⟩ := qep l S (fun y hy => hx y (by simp [hy])) hS;rw [List.reverse_cons, List.foldl_append];simp only [List.foldl_cons, List.foldl_nil];refine ⟨by rw [qfa]; exact h1, fun r hr => ?_⟩;have hok := hx x (by simp);rw [qnb (u := u) (regs := n) hok (by rw [h1]) (by omega), h2 r hr];simp [q39]
theorem qmf {f : UFun} {r b : Nat} (V : Nat -> Bool) (hb : b < f.blocks.length) : stepB f r V b = q39 f.blocks[b].list (behB V f.blocks[b] || regIs f.blocks[b].end_.on r) r := by
 unfold stepB;rw [List.getElem?_eq_getElem hb]
theorem qb7 (S : List Bool) (g0 n cp : Nat) (w : World) (h : SetAt g0 S w) (hl : S.length = n) (hcp : n ≤ cp) (hn : n ≤ 5000) (R : Ending -> World -> Prop)
 (hR : ∀ w' g cap, Below w.heap.size w w' -> w.heap.size ≤ g -> SetAt g S w' -> n ≤ cap -> R (.returned (.slice (some ⟨g, 0, none⟩) n cap)) w') :
 Calls Tryz.prog 117 #[.slice (some ⟨g0, 0, none⟩) n cp] w R := by
 subst hl;obtain ⟨i0, hi, hz0, hz1, hz2⟩ := info_parts q9u;have hnil := fun w => Lib.run_eql_slice_nil (P := Tryz.prog) w 160 4 (some ⟨g0, 0, none⟩) S.length cp 0 0 Tryz.underlying160;have hs := h.SL (by unfold maxLen; omega) hcp;have hnews : ∀ j u, (S.flatMap q2v)[j]? = some u -> w.cell? ((⟨g0, 0, none⟩ : Addr).add j) = some u := hs.news (fun _ _ _ _ h => h) (fun _ => rfl) (by decide);have hlt : g0 < w.heap.size := h.lt;obtain ⟨Hn, Hl, HR⟩ := lh3 hnews hlt hR;clear hnews hlt h hs hR
 go_enter Tryz.func117, Tryz.ntmps117
 go_wp2_with (at_builtin; refine wpList_append_own _ rfl _ _ 160 rfl w.heap.size 4 i0 _ 1 1 Tryz.underlying160 hi hz0 hz1 hz2 rfl (by decide) (.slice (some ⟨w.heap.size, 0, none⟩) 0 0) 0 [] rfl ?_ ⟨g0, 0, none⟩ S.length cp (S.flatMap q2v) rfl (q0e q2v 1 (fun _ => rfl) S) ?_ ?_ ?_ ?_ ?_ ?_)
 ·exact ⟨rfl, .inr ⟨w.heap.size, 0, #[], rfl, Nat.le_refl _, heap_alloc_new w _, Nat.le_refl _, Nat.zero_le _, rfl, rfl⟩⟩
 ·intro j u hj;rw [World.cell?_alloc_lt _ _ _ (by rw [qg5]; exact Hl.out)];exact Hn.out j u hj
 ·exact qnh S
 ·unfold maxLen; omega
 ·omega
 ·simp
 ·intro v' w1 hown hgrow hnn;have hne : v' ≠ .slice none 0 0 := hnn;have hown2 : w1.ownsRow w.heap.size 4 1 v' S.length (S.flatMap q2v) := by simpa using hown
  obtain ⟨g, cap, hv, hge, hcap⟩ : ∃ g cap, v' = .slice (some ⟨g, 0, none⟩) S.length cap ∧ w.heap.size ≤ g ∧ S.length ≤ cap := by
   rcases hown2.2 with ⟨e, _⟩ | ⟨g, cap, cur, hv, hb, _, hnc, _⟩
   ·exact absurd e hne
   ·exact ⟨g, cap, hv, hb, hnc⟩
  subst hv;have HS := lh (SetAt.of_own hown2 rfl);have Hfin := lh (HR.out w1 g cap ((Below.refl _ _).alloc (Nat.le_refl _) _ |>.grown hgrow (by simp) (fun k hk => by simp [Value.ownBlock] at hk; omega)) hge HS.out hcap);clear hown hown2 hgrow hnn hne HS;go_wp2;exact Hfin.out
def setV (n : Nat) (p : Nat × Nat) : Value := .slice (some ⟨p.1, 0, none⟩) n p.2
structure SetRow (base n : Nat) (w : World) (v : Value) (V : List (List Bool)) (gs : List (Nat × Nat)) : Prop where
 len : gs.length = V.length
 own : w.ownsRow base 160 1 v V.length (gs.map (setV n))
 sets : ∀ k (h : k < gs.length), SetAt gs[k].1 (rowV V k) w ∧ base ≤ gs[k].1 ∧ n ≤ gs[k].2
 rows : ∀ k, k < V.length -> (rowV V k).length = n
theorem SetRow.keep {base n : Nat} {w w' : World} {v : Value} {V : List (List Bool)} {gs : List (Nat × Nat)} (h : SetRow base n w v V gs) (hk : ∀ k o, base ≤ k -> w.heap[k]? = some o -> (v.ownBlock = some k ∨ ∃ A, o = .cells A 4 (0, 0)) -> w'.heap[k]? = some o) : SetRow base n w' v V gs := by
 refine ⟨h.len, ?_, fun k hl => ?_, h.rows⟩
 ·obtain ⟨h1, h2⟩ := h.own;refine ⟨h1, ?_⟩
  rcases h2 with h2 | ⟨g, cap, cur, hv, hb, hh, r⟩
  ·exact .inl h2
  ·exact .inr ⟨g, cap, cur, hv, hb, hk g _ hb hh (.inl (by rw [hv]; rfl)), r⟩
 ·obtain ⟨⟨A, h1, h2⟩, h3, h4⟩ := h.sets k hl;exact ⟨⟨A, hk _ _ h3 h1 (.inr ⟨A, rfl⟩), h2⟩, h3, h4⟩
theorem SetRow.below {base n : Nat} {w w' : World} {v : Value} {V : List (List Bool)} {gs : List (Nat × Nat)} (h : SetRow base n w v V gs) (hb : Below w.heap.size w w') : SetRow base n w' v V gs :=
 h.keep fun k o _ ho _ => (hb.block k (qa ho)).trans ho
theorem SetRow.alloc {base n : Nat} {w : World} {v : Value} {V : List (List Bool)} {gs : List (Nat × Nat)} (h : SetRow base n w v V gs) (o : Obj) : SetRow base n (w.alloc o) v V gs := h.below ((Below.refl _ _).alloc (Nat.le_refl _) o)
theorem SetRow.ownType {base n : Nat} {w : World} {v : Value} {V : List (List Bool)} {gs : List (Nat × Nat)} (h : SetRow base n w v V gs) {g : Nat} (hg : v.ownBlock = some g) : ∃ A, w.heap[g]? = some (.cells A 160 (0, 0)) ∧ base ≤ g ∧ g < w.heap.size := by
 rcases h.own.2 with ⟨hv, _⟩ | ⟨g', cap, cur, hv, hb, hh, _⟩
 ·rw [hv] at hg; cases hg
 ·rw [hv] at hg;obtain rfl : g' = g := Option.some.inj hg;exact ⟨cur, hh, hb, qa hh⟩
theorem SetRow.grown {base n : Nat} {w w' : World} {v : Value} {V : List (List Bool)} {gs : List (Nat × Nat)} (h : SetRow base n w v V gs) {row : Option Nat} (hg : w.grownBy w' row) (hne : ∀ g, row = some g -> v.ownBlock ≠ some g ∧ ∀ A, w.heap[g]? ≠ some (.cells A 4 (0, 0))) : SetRow base n w' v V gs :=
 h.keep fun k o _ ho hc => (hg.block k (qa ho) (fun e => by
  obtain ⟨h1, h2⟩ := hne k e.symm
  rcases hc with hc | ⟨A, rfl⟩
  ·exact h1 hc
  ·exact h2 A ho)).trans ho
theorem q8r {V : List (List Bool)} {S : List Bool} {k : Nat} : rowV (V ++ [S]) k = if k = V.length then S else rowV V k := by
 unfold rowV;rw [List.getD_eq_getElem?_getD, List.getD_eq_getElem?_getD]
 by_cases e : k = V.length
 ·subst e;simp
 ·rw [if_neg e]
  rcases Nat.lt_or_ge k V.length with hk | hk
  ·rw [List.getElem?_append_left hk]
  ·rw [List.getElem?_eq_none (by simp; omega), List.getElem?_eq_none hk]
theorem SetRow.nil (base n : Nat) (w : World) : SetRow base n w (.slice none 0 0) [] [] := ⟨rfl, World.ownsRow_nil _ _ _ _, fun k h => by simp at h, fun k h => by simp at h⟩
theorem SetRow.push {base n : Nat} {w w' : World} {v v' : Value} {V : List (List Bool)} {gs : List (Nat × Nat)} (h : SetRow base n w v V gs) {S : List Bool} {g cp : Nat} (hS : SetAt g S w) (hl : S.length = n) (hgb : base ≤ g) (hcp : n ≤ cp)
 (hown : w'.ownsRow base 160 1 v' (V.length + 1) (gs.map (setV n) ++ [.slice (some ⟨g, 0, none⟩) n cp])) (hg : w.grownBy w' v.ownBlock) : SetRow base n w' v' (V ++ [S]) (gs ++ [(g, cp)]) := by
 have hset : ∀ {k : Nat} {T : List Bool}, SetAt k T w -> SetAt k T w' := fun {k T} ⟨A, h1, h2⟩ => ⟨A, (hg.block k (qa h1) (fun e => by
  obtain ⟨B, hB, _⟩ := h.ownType e.symm;rw [h1] at hB;injection hB with hB
  injection hB with _ hB _
  exact absurd hB (by decide))).trans h1, h2⟩
 refine ⟨by rw [List.length_append, List.length_append, h.len]; rfl, by rw [List.length_append, List.map_append]; exact hown, fun k hk => ?_, fun k hk => ?_⟩
 ·rw [List.length_append, List.length_singleton] at hk;rw [q8r]
  by_cases e : k = V.length
  ·subst e;rw [if_pos rfl, List.getElem_append_right (by rw [h.len]; exact Nat.le_refl _)];simp only [h.len, Nat.sub_self, List.getElem_cons_zero];exact ⟨hset hS, hgb, hcp⟩
  ·rw [if_neg e, List.getElem_append_left (by rw [h.len] at hk ⊢; omega)];obtain ⟨h1, h2, h3⟩ := h.sets k (by rw [h.len] at hk ⊢; omega);exact ⟨hset h1, h2, h3⟩
 ·rw [q8r]
  split
  ·exact hl
  ·rw [List.length_append, List.length_singleton] at hk;exact h.rows k (by omega)
theorem SetRow.setE {base n gi ci : Nat} {w : World} {V : List (List Bool)} {gs : List (Nat × Nat)} (h : SetRow base n w (.slice (some ⟨gi, 0, none⟩) V.length ci) V gs) {k : Nat} (hk : k < V.length) {S : List Bool} {g cp : Nat} (hS : SetAt g S w) (hl : S.length = n) (hgb : base ≤ g) (hcp : n ≤ cp) :
 SetRow base n (w.setCell ⟨gi, k, none⟩ (.slice (some ⟨g, 0, none⟩) n cp)) (.slice (some ⟨gi, 0, none⟩) V.length ci) (V.set k S) (gs.set k (g, cp)) := by
 obtain ⟨B, hB, _⟩ := h.ownType (g := gi) rfl
 have hset : ∀ {j : Nat} {T : List Bool}, SetAt j T w -> SetAt j T (w.setCell ⟨gi, k, none⟩ (.slice (some ⟨g, 0, none⟩) n cp)) := fun {j T} ⟨A, h1, h2⟩ => ⟨A, (Below.heap_setCell _ _ _ _ (fun e => by
  have e : j = gi := e;subst e;rw [h1] at hB;injection hB with hB
  injection hB with _ hB _
  exact absurd hB (by decide))).trans h1, h2⟩
 refine ⟨by rw [List.length_set, List.length_set, h.len], ?_, fun j hj => ?_, fun j hj => ?_⟩
 ·have := q1x (vs := [.slice (some ⟨g, 0, none⟩) n cp]) (o := k) (m := V.length) h.own (by simp; omega) (Nat.le_refl _) ((gs.set k (g, cp)).map (setV n)) (by
   rw [List.length_singleton, List.map_set];have e : (gs.map (setV n)).length = V.length := by rw [List.length_map, h.len]
   rw [List.set_eq_take_append_cons_drop, if_pos (by rw [e]; exact hk), List.append_assoc, List.singleton_append, List.take_of_length_le (by simp [e]; omega)];rfl)
  rw [List.length_set];exact this
 ·rw [List.length_set] at hj;rw [q6m hk, List.getElem_set]
  by_cases e : j = k
  ·subst e;rw [if_pos rfl, if_pos rfl];exact ⟨hset hS, hgb, hcp⟩
  ·rw [if_neg e, if_neg (fun x => e x.symm)];obtain ⟨h1, h2, h3⟩ := h.sets j hj;exact ⟨hset h1, h2, h3⟩
 ·rw [List.length_set] at hj;rw [q6m hk]
  split
  ·exact hl
  ·exact h.rows j hj
theorem SetRow.SL {base n : Nat} {w : World} {v : Value} {V : List (List Bool)} {gs : List (Nat × Nat)} (h : SetRow base n w v V gs) (hm : n ≤ maxLen) : rpBool.slice.SL w w.heap.size V v := by
 obtain ⟨h1, h2⟩ := h.own
 rcases h2 with ⟨hv, hn⟩ | ⟨g, cap, cur, hv, hb, hh, hnc, hcm, hcs, htk⟩
 ·have : V = [] := List.eq_nil_of_length_eq_zero hn;subst this;rw [hv];exact Rp.SL.nil _ _ _
 ·refine ⟨some ⟨g, 0, none⟩, cap, hv, by unfold maxLen at hcm ⊢; omega, hnc, fun _ => ⟨g, 0, rfl, qa hh, fun k x hk => ?_⟩⟩;have hkV := (List.getElem?_eq_some_iff.1 hk).1;have hkg : k < gs.length := by rw [h.len]; exact hkV
  obtain ⟨s1, s2, s3⟩ := h.sets k hkg
  have ex : rowV V k = x := by
   unfold rowV;rw [List.getD_eq_getElem?_getD, hk];rfl
  have hlx := h.rows k hkV;rw [ex] at s1 hlx;subst hlx;refine ⟨[setV x.length gs[k]], ⟨_, rfl, s1.SL hm s3⟩, fun j u hj => ?_⟩
  match j, hj with
  | 0, hj =>
    injection hj with hj
    subst hj;have e : (gs.map (setV x.length))[k]? = some (setV x.length gs[k]) := by rw [List.getElem?_map, List.getElem?_eq_getElem hkg]; rfl
    rw [<- htk, List.getElem?_take] at e
    split at e
    ·show w.cell? ⟨g, 0 + k * 1 + 0, none⟩ = _;rw [show 0 + k * 1 + 0 = k from by omega, qb hh];simpa using e
    ·cases e
  | j + 1, hj => simp at hj
theorem SetRow.SLF {base n b : Nat} {w : World} {v : Value} {V : List (List Bool)} {gs : List (Nat × Nat)} (h : SetRow base n w v V gs) (hm : n ≤ maxLen) (hb : b ≤ base) : rpBool.slice.SLF w b w.heap.size V v := by
 have h1 : SetRow base n (only w fun k => decide (b ≤ k)) v V gs := h.keep fun k o hk ho _ => by rw [q46 _ _ _ (by simp; omega)]; exact ho
 have := h1.SL hm;rw [q47] at this;exact this
theorem SetRow.cell {base n : Nat} {w : World} {A : Option Addr} {m c : Nat} {V : List (List Bool)} {gs : List (Nat × Nat)} (h : SetRow base n w (.slice A m c) V gs) {k : Nat} (hk : k < gs.length) : ∃ g, A = some ⟨g, 0, none⟩ ∧ w.cell? ⟨g, k, none⟩ = some (setV n gs[k]) := by
 obtain ⟨h1, h2⟩ := h.own
 rcases h2 with ⟨hv, hn⟩ | ⟨g, cap, cur, hv, hb, hh, hnc, hcm, hcs, htk⟩
 ·rw [h.len] at hk; omega
 ·injection hv with hA _ _
  refine ⟨g, hA, ?_⟩;have e : (gs.map (setV n))[k]? = some (setV n gs[k]) := by rw [List.getElem?_map, List.getElem?_eq_getElem hk]; rfl
  rw [<- htk, List.getElem?_take] at e
  split at e
  ·rw [qb hh];simpa using e
  ·cases e
theorem qlh : (Tryz.prog.info? 160).map (fun i => (i.zero, i.size, i.bytes)) = some (some (.slice none 0 0), 1, 24) := by kernel_rfl
theorem SetAt.grownRow {g : Nat} {S : List Bool} {w w' : World} (h : SetAt g S w) {row : Option Nat} (hg : w.grownBy w' row) (hr : ∀ k, row = some k -> ∃ A, w.heap[k]? = some (.cells A 160 (0, 0))) : SetAt g S w' := h.block fun o ho hc => (hg.block g (qa ho) (fun e => by
 obtain ⟨A, h1⟩ := hr g e.symm;obtain ⟨B, h2, _⟩ := h;rw [h2] at h1;injection h1 with h1
 injection h1 with _ h1 _
 exact absurd h1 (by decide))).trans ho
theorem qhv {ops : Array Oper} {rest : List Oper} {o : Oper} {a : Act} {w : World} {Q : Exit -> Act -> World -> Prop} (hgd : o.guard = none) (s x : Operand) (ho : o.op = .call { callee := .builtin .append, args := #[s, x], argTypes := #[134, 134] })
 {base m : Nat} {v : Value} {xs : List Value} (hs : a.eval s = v) (hown : w.ownsRow base 160 1 v m xs) (g' : Nat) (A : Option Addr) (n c : Nat) (hx : a.eval x = .slice (some ⟨g', 0, none⟩) 1 1) (hg : w.heap[g']? = some (.cells #[.slice A n c] 160 (0, 0))) (hfew : m ≤ 1000) (hbase : base ≤ w.heap.size)
 (h : ∀ v' w', w'.ownsRow base 160 1 v' (m + 1) (xs ++ [.slice A n c]) -> w.grownBy w' v.ownBlock -> (v'.ownBlock = v.ownBlock ∨ v'.ownBlock = some w.heap.size) -> wpList Tryz.prog ops Q rest (a.put o.dst v') w') : wpList Tryz.prog ops Q (o :: rest) a w := by
 obtain ⟨i0, hi0, hz0, hz1, hz2⟩ := info_parts qlh;refine wpList_append_own_at w hgd s x 134 ho base 160 i0 _ 1 24 Tryz.underlying134 hi0 hz0 hz1 hz2 rfl (by decide) v m xs hs hown ⟨g', 0, none⟩ 1 1 [.slice A n c] hx rfl (fun j u hj => ?_) (fun u hu => by simp at hu; subst hu; rfl) (by unfold maxLen; omega) (by omega) hbase (fun v' w' h1 h2 _ h3 => h v' w' h1 h2 h3)
 match j, hj with
 | 0, hj =>
   have e : u = .slice A n c := by
    have : (some (Value.slice A n c)) = some u := hj;exact (Option.some.inj this).symm
   rw [e, Addr.add_lit];simp [World.cell?, hg]
 | j + 1, hj => simp at hj
end Go.Proofs.YtdanebboiekieaaGreatDoor
