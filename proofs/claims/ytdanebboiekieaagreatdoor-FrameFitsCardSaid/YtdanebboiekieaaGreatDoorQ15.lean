/- Package live, bit by bit: slices.Index, the row of what is ahead, a set made and cloned and compared. Package live: BehindOf. -/
import Derived.Test.YtdanebboiekieaaGreatDoorQ10
import Derived.Test.YtdanebboiekieaaGreatDoorQ01
import Derived.Test.YtdanebboiekieaaGreatDoorRows
import Derived.IntWalk
import Derived.Outline
import Derived.Deep.LoopGhost
import Derived.Deep.QuietTactic
import Derived.Laws.MakeOwn
import Derived.Laws.AppendOwnNone
import Derived.Test.YtdanebboiekieaaGreatDoorQ14
import Derived.Test.YtdanebboiekieaaGreatDoorQ07
import Derived.Deep.CutBlock
import Derived.Deep.DeepCutAuto
namespace Go.Proofs.YtdanebboiekieaaGreatDoor
open Go.RowKit
set_option linter.unusedSimpArgs false
set_option linter.unusedVariables false

set_option maxRecDepth 100000 in
set_option maxHeartbeats 8000000 in
theorem gahead_calls (nm : ByteArray) (pr rg : Int) (l : List UBlk) (v : Value) (w : World) (h : rpBlk.SL w w.heap.size l v) (h40 : l.length ≤ 40) (hok : ∀ b ∈ l, b.end_.to.length ≤ 2 ∧ ∀ t ∈ b.end_.to, 0 ≤ t ∧ t < (l.length : Int)) (R : Ending → World → Prop)
 (hR : ∀ w' v', Below w.heap.size w w' → rpInt.slice.SLF w' w.heap.size w'.heap.size (aheadT l) v' → R (.returned v') w') :
 Calls Tryz.prog 115 #[.agg #[.string nm, .int .i64 pr, .int .i64 rg, v]] w R := by
 obtain ⟨A, c, rfl, hmx, hcap, hs⟩ := h.cases_
 have HR := Lib.hid hR
 have Hs := Lib.hid hs
 have Hok := Lib.hid hok
 clear hR hs h hok
 have hmk := make_rows (w.alloc (Obj.cells #[.string nm, .int .i64 pr, .int .i64 rg, .slice A l.length c] 56)) l.length (by omega)
 obtain ⟨g, hg⟩ : ∃ g, g = w.heap.size + 1 := ⟨_, rfl⟩
 obtain ⟨W2, hW2⟩ : ∃ W2, W2 = (w.alloc (Obj.cells #[.string nm, .int .i64 pr, .int .i64 rg, .slice A l.length c] 56)).alloc (.cells (List.replicate l.length (Value.slice none 0 0)).toArray 26) := ⟨_, rfl⟩
 have hsz : (w.alloc (Obj.cells #[.string nm, .int .i64 pr, .int .i64 rg, .slice A l.length c] 56)).heap.size = g := by rw [hg]; simp
 have hblk2 : W2.heap[g]? = some (.cells (List.replicate l.length (Value.slice none 0 0)).toArray 26 (0, 0)) := by rw [hW2, ← hsz]; exact heap_alloc_new _ _
 rw [← hW2, hsz] at hmk
 have hb2 : Below w.heap.size w W2 := by rw [hW2]; exact bl0
 have hE2 : W2.heap[w.heap.size]? = some (.cells #[.string nm, .int .i64 pr, .int .i64 rg, .slice A l.length c] 56 (0, 0)) := by rw [hW2]; exact blk_alloc (heap_alloc_new _ _) _
 have Hb2 := Lib.hid hb2
 have Hblk2 := Lib.hid hblk2
 have HE2 := Lib.hid hE2
 have Htab2 : Hid (Tab W2 (g + 1) (List.replicate l.length (.slice none 0 0)) (tabE l.length (edgesTo l 0))) := Lib.hid (by rw [edgesTo, tabE_nil]; exact Tab.first)
 have hgw : w.heap.size < g := by omega
 obtain ⟨e0, e1, e2, e3⟩ := fun_cells hE2
 have hlE := blk_lt hE2
 have hsz2 := hb2.size
 clear hW2 hb2 hblk2 hE2 hg hsz
 go_enter Tryz.func115, Tryz.ntmps115
 go_wp2
 clear e0 e1 e2 e3 hlE
 go_loopg [15] l.length (fun gh s15 wr => ∃ (i : Nat) (V : List Value), i ≤ l.length ∧ gh = l.length - i ∧ s15 = .int .i64 (i : Int) ∧ Hid (Tab wr (g + 1) V (tabE l.length (edgesTo l i))) ∧ Hid (Below w.heap.size w wr) ∧ Hid (wr.heap[g]? = some (.cells V.toArray 26 (0, 0))))
 case atStart => exact ⟨0, _, Nat.zero_le _, rfl, rfl, Htab2, Hb2, Hblk2⟩
 case round =>
  obtain ⟨i, V, hi, rfl, rfl, Htab, Hb, Hblk⟩ := hrel
  clear Htab2 Hb2 Hblk2 HE2 hmk
  have hz := Hb.out.size
  by_cases hlt : i < l.length
  ·obtain ⟨b, off, vp, vl, vt, rfl, hb, hp, hl, ht, q0, q1, q2, q3, q4, q5⟩ := Hs.out.blk_at hlt
   obtain ⟨Ap, cp, rfl, _, _, hp⟩ := hp.cases_
   obtain ⟨Al, cl, rfl, _, _, hl⟩ := hl.cases_
   obtain ⟨At, ct, rfl, _, _, ht⟩ := ht.cases_
   have i1 : (0 : Int) ≤ (i : Int) := Int.natCast_nonneg _
   have i2 : (i : Int) < (l.length : Int) := by omega
   have lb : b < wr.heap.size := by omega
   have r0 := (Hb.out.cell (p := ⟨b, off + i * 6, none⟩) hb).trans q0
   have r1 := (Hb.out.cell (p := ⟨b, off + i * 6 + 1, none⟩) hb).trans q1
   have r2 := (Hb.out.cell (p := ⟨b, off + i * 6 + 2, none⟩) hb).trans q2
   have r3 := (Hb.out.cell (p := ⟨b, off + i * 6 + 3, none⟩) hb).trans q3
   have r4 := (Hb.out.cell (p := ⟨b, off + i * 6 + 4, none⟩) hb).trans q4
   have r5 := (Hb.out.cell (p := ⟨b, off + i * 6 + 5, none⟩) hb).trans q5
   have Hto := Lib.hid (Hok.out _ (List.getElem_mem hlt))
   have Hst : Hid (edgesTo l (i + 1) = edgesTo l i ++ l[i].end_.to.map fun t => ((i : Int), t)) := Lib.hid (edgesTo_step hlt)
   have Helen := Lib.hid (edgesTo_len (l := l) (fun b hb => (Hok.out b hb).1) i)
   have Hti := Lib.hid ht
   generalize l[i].end_.to = ts at *
   generalize l[i] = bk at *
   obtain ⟨W3, hW3⟩ : ∃ W3, W3 = wr.alloc (Obj.cells #[.slice Ap bk.phis.length cp, .slice Al bk.list.length cl, .int .i64 bk.end_.kind, .bool bk.end_.on.reg, .int .i64 bk.end_.on.n, .slice At ts.length ct] 68) := ⟨_, rfl⟩
   have hbw : Below wr.heap.size wr W3 := by subst hW3; exact bl0
   have hB3 := Hb.out.trans (hbw.mono hz)
   have hX3 : W3.heap[wr.heap.size]? = some (.cells #[.slice Ap bk.phis.length cp, .slice Al bk.list.length cl, .int .i64 bk.end_.kind, .bool bk.end_.on.reg, .int .i64 bk.end_.on.n, .slice At ts.length ct] 68 (0, 0)) := by subst hW3; exact heap_alloc_new _ _
   have hV3 := (hbw.block _ (blk_lt Hblk.out)).trans Hblk.out
   have HT3 := Lib.hid (Htab.out.keep (fun k _ hl => hbw.block k hl))
   have HB3 := Lib.hid hB3
   have HV3 := Lib.hid hV3
   have Hts3 := Lib.hid (Hti.out.up hB3 hB3.size)
   have HW3 := Lib.hid hW3.symm
   have hlX := blk_lt hX3
   obtain ⟨x0, x1, x2, x3, x4, x5⟩ := blk6_cells hX3
   have hgsz : g < wr.heap.size := blk_lt Hblk.out
   have HE3 : Hid (tabE l.length (edgesTo l i ++ (ts.take 0).map fun t => ((i : Int), t)) = tabE l.length (edgesTo l i)) := Lib.hid (by simp)
   clear Htab Hb Hblk hbw hB3 hV3 hX3 hW3 hp hl ht q0 q1 q2 q3 q4 q5
   go_upto_region 5 with fail
   rw [HW3.out]
   go_wp2
   clear r0 r1 r2 r3 r4 r5 x0 x1 x2 x3 x4 x5 hlX lb HW3
   go_loopg [24] ts.length (fun gh s24 wx => ∃ (j : Nat) (V' : List Value), j ≤ ts.length ∧ gh = ts.length - j ∧ s24 = .int .i64 (j : Int) ∧ Hid (Tab wx (g + 1) V' (tabE l.length (edgesTo l i ++ (ts.take j).map fun t => ((i : Int), t)))) ∧ Hid (Below w.heap.size w wx) ∧ Hid (wx.heap[g]? = some (.cells V'.toArray 26 (0, 0))))
   case atStart => exact ⟨0, V, Nat.zero_le _, rfl, rfl, by rw [HE3.out]; exact HT3, HB3, HV3⟩
   case round =>
    obtain ⟨j, V', hj, rfl, rfl, Htab6, Hb6, HblkV6⟩ := hrel
    clear HT3 HB3 HV3 HE3
    have hz6 := Hb6.out.size
    by_cases hlj : j < ts.length
    ·obtain ⟨bt, ot, rfl, hbt, q0⟩ := Hti.out.int_at hlj
     have p0 := (Hb6.out.cell (p := ⟨bt, ot + j, none⟩) hbt).trans q0
     have hgd : ts.getD j 0 = ts[j] := by rw [List.getD_eq_getElem?_getD, List.getElem?_eq_getElem hlj]; rfl
     obtain ⟨t, htt, htn⟩ : ∃ t : Nat, ts.getD j 0 = (t : Int) ∧ t < l.length := by
      have := Hto.out.2 ts[j] (List.getElem_mem hlj)
      exact ⟨ts[j].toNat, by rw [hgd]; omega, by omega⟩
     have Hm : Hid (tabE l.length (edgesTo l i ++ (ts.take (j + 1)).map fun t => ((i : Int), t)) = (tabE l.length (edgesTo l i ++ (ts.take j).map fun t => ((i : Int), t))).set t (rowE (edgesTo l i ++ (ts.take j).map fun t => ((i : Int), t)) t ++ [(i : Int)])) := Lib.hid (by
      rw [List.take_succ_eq_append_getElem hlj, List.map_append, ← List.append_assoc, ← tabE_push htn, ← htt, hgd]
      rfl)
     have hEl : (edgesTo l i ++ (ts.take j).map fun t => ((i : Int), t)).length ≤ 100 := by
      rw [List.length_append, List.length_map, List.length_take]
      have := Helen.out
      have := Hto.out.1
      omega
     have hfw : (rowE (edgesTo l i ++ (ts.take j).map fun t => ((i : Int), t)) t).length ≤ 100 := Nat.le_trans (rowE_len _ _) hEl
     rw [htt] at p0
     have hTL := tabE_len l.length (edgesTo l i ++ (ts.take j).map fun t => ((i : Int), t))
     have hVl : t < V'.length := by rw [Htab6.out.len, hTL]; exact htn
     have hkT : t < (tabE l.length (edgesTo l i ++ (ts.take j).map fun t => ((i : Int), t))).length := by rw [hTL]; exact htn
     have ho := Htab6.out.own t hkT
     rw [tabE_at htn] at ho
     have q2 : wr.cell? ⟨g, t, none⟩ = some (atT V' t) := by
      rw [blk_cells HblkV6.out]
      unfold atT
      rw [List.getD_eq_getElem?_getD, List.getElem?_eq_getElem hVl]
      simp [hVl]
     obtain ⟨A6, c6, hs6⟩ := own_slice ho
     have n1 := Htab6.out.not hkT HblkV6.out (by decide)
     generalize rowE (edgesTo l i ++ (ts.take j).map fun t => ((i : Int), t)) t = X at *
     have hpush := fun (W1 : World) (hk1 : ∀ k, g + 1 ≤ k → k < wr.heap.size → W1.heap[k]? = wr.heap[k]?) (w' : World) (v' : Value) (h1 : w'.ownsRow (g + 1) 3 1 v' (X ++ [(i : Int)]).length ((X ++ [(i : Int)]).flatMap intCells)) => (Htab6.out.keep hk1).push (w' := w') hkT h1
     have hlo := fun j (e : (atT V' t).ownBlock = some j) => (Htab6.out.lt hkT e).1
     rw [hs6] at hlo
     have Hlo := Lib.hid hlo
     rw [hs6] at q2 ho n1 hpush
     have Ho := Lib.hid ho
     have Hpush := Lib.hid hpush
     have Hn := Lib.hid n1
     have HVl := Lib.hid hVl
     have Hfw := Lib.hid hfw
     have lG := blk_lt HblkV6.out
     have t1 : (0 : Int) ≤ (t : Int) := Int.natCast_nonneg _
     have t2 : (t : Int) < (l.length : Int) := by omega
     have j1 : (0 : Int) ≤ (j : Int) := Int.natCast_nonneg _
     have j2 : (j : Int) < (ts.length : Int) := by omega
     have lbt : bt < wr.heap.size := by omega
     clear hTL ho hpush n1 hVl hs6 hkT hfw hEl q0 hgd hlo
     have Hbt := Lib.hid hbt
     clear hbt
     have f2 : wr.frozen? ⟨g, t, none⟩ = false := by simp [World.frozen?, HblkV6.out]
     have Hal := Lib.hid (show ∀ k, g + 1 ≤ k → k < wr.heap.size → (wr.alloc (Obj.cells #[.int .i64 (i : Int)] 3)).heap[k]? = wr.heap[k]? from fun k _ hl => (by exact bl0 : Below wr.heap.size wr (wr.alloc (Obj.cells #[.int .i64 (i : Int)] 3))).block k hl)
     have Hbal := Lib.hid (Hb6.out.alloc hz6 (Obj.cells #[.int .i64 (i : Int)] 3))
     have hgr : g + 1 ≤ (wr.alloc (Obj.cells #[.int .i64 (i : Int)] 3)).heap.size := by simp; omega
     go_wp2_with (at_builtin; refine app_one rfl _ _ rfl (v := .slice A6 X.length c6) rfl (Ho.out.alloc _) wr.heap.size (i : Int) rfl (heap_alloc_new _ _) Hfw.out hgr ?_)
     intro v7 w7 hown7 hg7 hat7
     have hown8 : w7.ownsRow (g + 1) 3 1 v7 (X ++ [(i : Int)]).length ((X ++ [(i : Int)]).flatMap intCells) := by simpa using hown7
     clear hown7
     have Htab7 := Hpush.out _ Hal.out _ _ hown8 hg7 (by rw [show (wr.alloc (Obj.cells #[.int .i64 (i : Int)] 3)).heap.size = wr.heap.size + 1 from by simp]; exact hat7)
     have hV7 := (hg7.block _ (by simp; omega) Hn.out).trans (blk_alloc HblkV6.out _)
     have hb7 := Hbal.out.trans ((Grew.of_grown hg7).below (B := w.heap.size) (fun j hj e => by have := Hlo.out j e; omega) (by simp; omega))
     obtain ⟨A7, c7, rfl⟩ := own_slice hown8
     have q7 : w7.cell? ⟨g, t, none⟩ = some (.slice A6 X.length c6) := hg7.cell (by rw [World.cell?_alloc_lt _ _ _ (show g < wr.heap.size from lG)]; exact q2) Hn.out
     generalize (X ++ [(i : Int)]).length = N7 at *
     have HV7 := Lib.hid hV7
     have Hb7 := Lib.hid hb7
     have HT7 := Lib.hid Htab7
     have f7 : w7.frozen? ⟨g, t, none⟩ = false := by simp [World.frozen?, hV7]
     have l7 : g < w7.heap.size := blk_lt hV7
     clear hown8 hg7 hat7 Htab7 hV7 hb7 q2 f2 lG hgr Hlo Hpush Hal Hbal p0
     go_wp2
     go_roundg (ts.length - (j + 1))
     case measure => omega
     case rel =>
      refine ⟨j + 1, V'.set t (.slice A7 N7 c7), by omega, rfl, by go_num, ?_, Lib.hid (Hb7.out.setCell (p := ⟨g, t, none⟩) (by show w.heap.size ≤ g; omega) _), Lib.hid ?_⟩
      ·rw [Hm.out]
       exact Lib.hid (HT7.out.keep (fun k' h1 _ => Below.heap_setCell _ _ _ _ (by show k' ≠ g; omega)))
      ·rw [block_set HV7.out, List.setIfInBounds_toArray]
    ·obtain rfl : j = ts.length := by omega
     have j2 : ¬ ((ts.length : Int) < (ts.length : Int)) := by omega
     have HTn : Hid (Tab wr (g + 1) V' (tabE l.length (edgesTo l (i + 1)))) := Lib.hid (by rw [Hst.out]; have := Htab6.out; rwa [List.take_length] at this)
     clear Htab6
     go_wp2
     go_roundg (l.length - (i + 1))
     case measure => omega
     case rel => exact ⟨i + 1, V', by omega, rfl, by go_num, HTn, Hb6, HblkV6⟩
  ·obtain rfl : i = l.length := by omega
   have i2 : ¬ ((l.length : Int) < (l.length : Int)) := by omega
   have hsl := Htab.out.SLF (b := w.heap.size) Hblk.out (by omega) (by omega) (by rw [tabE_len]; unfold maxLen; omega)
   rw [tabE_len] at hsl
   have Hfin := Lib.hid (HR.out _ _ Hb.out (by rw [← tabE_all]; exact hsl))
   clear hsl
   go_wp2
   exact Hfin.out
set_option maxHeartbeats 1000000 in
theorem idxInt_calls (l : List Int) (v : Value) (n : Int) (w : World) (h : rpInt.SL w w.heap.size l v) (R : Ending → World → Prop)
 (hR : ∀ r : Int, R (.returned (.int .i64 r)) w) : Calls Tryz.prog 63 #[v, .int .i64 n] w R := by
 obtain ⟨A, c, rfl, hm, hcap, h⟩ := h.cases_
 have HR := Lib.hid hR
 have H := Lib.hid h
 clear hR h
 go_enter Tryz.func63, Tryz.ntmps63
 go_wp2
 go_loopg [5, 8] l.length (fun g s5 i wr => ∃ k : Nat, k ≤ l.length ∧ g = l.length - k ∧ i = .int .i64 k ∧ wr = w)
 case atStart => exact ⟨0, Nat.zero_le _, rfl, rfl, rfl⟩
 case round =>
  obtain ⟨k, hk, rfl, rfl, rfl⟩ := hrel
  rename World => w
  have i1 : (0 : Int) ≤ (k : Int) := Int.natCast_nonneg _
  by_cases hlt : k < l.length
  ·obtain ⟨b, off, rfl, hb, q0⟩ := H.out.int_at hlt
   have i2 : (k : Int) < (l.length : Int) := by omega
   generalize l.getD k 0 = s at *
   by_cases hx : n = s
   ·have hne : (n == s) = true := by simpa using hx
    clear hx
    go_wp2
    exact HR.out _
   ·have hne : (n == s) = false := by simpa using hx
    clear hx
    go_wp2
    go_roundg (l.length - (k + 1))
    case measure => omega
    case rel => exact ⟨k + 1, hlt, rfl, by go_num, rfl⟩
  ·obtain rfl : k = l.length := by omega
   go_wp2
   exact HR.out _
theorem info_boolU : (Tryz.prog.info? 4).map (fun i => (i.zero, i.size, i.bytes)) = some (some (.bool false), 1, 1) := by kernel_rfl
theorem make_set (W : World) (n : Nat) (hn : n ≤ 5000) : (Instr.makeSlice 160 (.int .i64 (n : Int)) (.int .i64 (n : Int))).run Tryz.prog W = .ok (.slice (some ⟨W.heap.size, 0, none⟩) n n) (W.alloc (.cells (bitsA (List.replicate n false)) 4)) := by
 obtain ⟨iB, hi, z0, z1, z2⟩ := info_parts info_boolU
 have h := run_make (P := Tryz.prog) W 160 4 iB _ Tryz.underlying160 hi z0 .i64 .i64 (n : Int) (n : Int) (by omega) (Int.le_refl _) (by rw [z2]; omega) (by omega)
 rw [z1] at h
 simp only [Int.toNat_natCast, Nat.mul_one] at h
 have e : madeCells (Value.bool false).cells n = bitsA (List.replicate n false) := by
  unfold madeCells bitsA
  apply Array.ext
  ·simp
  ·intro i h1 h2
   simp [Value.cells, Nat.mod_one]
 rw [e] at h
 exact h
/-- A set's row, read. -/
theorem SetAt.SL {g cp : Nat} {S : List Bool} {w : World} (h : SetAt g S w) (hm : S.length ≤ maxLen) (hc : S.length ≤ cp) : rpBool.SL w w.heap.size S (.slice (some ⟨g, 0, none⟩) S.length cp) := by
 refine ⟨_, _, rfl, hm, hc, fun _ => ⟨g, 0, rfl, h.lt, fun k x hk => ⟨_, rfl, fun j u hj => ?_⟩⟩⟩
 cases j with
 | zero =>
   simp at hj
   subst hj
   have hlt := (List.getElem?_eq_some_iff.1 hk).1
   have := h.cell hlt
   rw [bAt_get hlt] at hk
   injection hk with hk
   rw [← hk]
   simpa [rpBool] using this
 | succ j => simp at hj
theorem Rp.SL.bool_at {w : World} {B : Nat} {xs : List Bool} {A : Option Addr} {n c k : Nat} (h : rpBool.SL w B xs (.slice A n c)) (hk : k < xs.length) : ∃ b off, A = some ⟨b, off, none⟩ ∧ b < B ∧ w.cell? ⟨b, off + k, none⟩ = some (.bool (bAt xs k)) := by
 obtain ⟨b, off, cs, hA, hb, hr, hcs⟩ := h.at_ (bAt_get hk)
 refine ⟨b, off, hA, hb, ?_⟩
 cases hr
 have := hcs 0 _ rfl
 simpa [rpBool] using this
/-- slices.Equal of two sets. -/
theorem setEq_iff {S T : List Bool} (h : S.length = T.length) : (∀ k, k < S.length → bAt S k = bAt T k) ↔ S = T :=
 ⟨fun he => bAt_ext h he, fun e k _ => by rw [e]⟩
set_option maxHeartbeats 2000000 in
theorem setEqual_calls (S T : List Bool) (v1 v2 : Value) (w : World) (h1 : rpBool.SL w w.heap.size S v1) (h2 : rpBool.SL w w.heap.size T v2) (hl : S.length = T.length) (R : Ending → World → Prop)
 (hR : ∀ w', Below w.heap.size w w' → R (.returned (.bool (decide (S = T)))) w') : Calls Tryz.prog 120 #[v1, v2] w R := by
 obtain ⟨A1, c1, rfl, hm1, _, h1⟩ := h1.cases_
 obtain ⟨A2, c2, rfl, hm2, _, h2⟩ := h2.cases_
 have HR := Lib.hid hR
 have H1 := Lib.hid h1
 have H2 := Lib.hid h2
 have Hl := Lib.hid hl
 have hne : ((S.length : Int) != (T.length : Int)) = false := by rw [hl]; simp
 clear hR h1 h2 hl
 go_enter Tryz.func120, Tryz.ntmps120
 go_wp2
 go_loopg [5, 13] S.length (fun g s5 i wr => ∃ k : Nat, k ≤ S.length ∧ g = S.length - k ∧ i = .int .i64 k ∧ Hid (∀ j, j < k → bAt S j = bAt T j) ∧ Hid (Below w.heap.size w wr))
 case atStart => exact ⟨0, Nat.zero_le _, rfl, rfl, Lib.hid (fun j h => absurd h (Nat.not_lt_zero j)), Lib.hid bl0⟩
 case round =>
  obtain ⟨k, hk, rfl, rfl, He, Hb⟩ := hrel
  have i1 : (0 : Int) ≤ (k : Int) := Int.natCast_nonneg _
  have hz := Hb.out.size
  by_cases hlt : k < S.length
  ·obtain ⟨b, off, rfl, hb, q0⟩ := H1.out.bool_at hlt
   obtain ⟨b', off', rfl, hb', q1⟩ := H2.out.bool_at (k := k) (by rw [← Hl.out]; exact hlt)
   have p0 := (Hb.out.cell (p := ⟨b, off + k, none⟩) hb).trans q0
   have p1 := (Hb.out.cell (p := ⟨b', off' + k, none⟩) hb').trans q1
   have lb : b < wr.heap.size := by omega
   have lb' : b' < wr.heap.size := by omega
   have i2 : (k : Int) < (S.length : Int) := by omega
   have i3 : (k : Int) < (T.length : Int) := by rw [← Hl.out]; exact i2
   have Hno : Hid (bAt S k ≠ bAt T k → decide (S = T) = false) := Lib.hid fun h => decide_eq_false fun e => h (by rw [e])
   have Hyes : Hid (bAt S k = bAt T k → ∀ j, j < k + 1 → bAt S j = bAt T j) := Lib.hid fun h j hj => by
    rcases Nat.lt_or_ge j k with h1 | h1
    ·exact He.out j h1
    ·obtain rfl : j = k := by omega
     exact h
   generalize bAt S k = x at *
   generalize bAt T k = y at *
   clear q0 q1 hne
   by_cases hxy : x = y
   ·have hy := Lib.hid (Hyes.out hxy)
    subst hxy
    have hb1 : (x == x) = true := by simp
    clear Hno Hyes
    go_wp2_with fail
    go_quiet (fail)
    go_wp2
    go_roundg (S.length - (k + 1))
    case measure => omega
    case rel => exact ⟨k + 1, hlt, rfl, by go_num, hy, Lib.hid (below_drewN Hb.out _)⟩
   ·have hb1 : (x == y) = false := by simpa using hxy
    have Hfin : Hid (∀ n, R (.returned (.bool false)) (wr.drewN n)) := Lib.hid fun n => by
     have := HR.out _ (below_drewN Hb.out n)
     rwa [Hno.out hxy] at this
    clear Hno Hyes hxy
    go_wp2_with fail
    go_quiet (fail)
    go_wp2
    exact Hfin.out _
  ·obtain rfl : k = S.length := by omega
   have Hfin := Lib.hid (HR.out _ Hb.out)
   rw [decide_eq_true ((setEq_iff Hl.out).1 He.out)] at Hfin
   have i2 : ¬ ((S.length : Int) < (S.length : Int)) := by omega
   clear hne
   go_wp2
   exact Hfin.out
end Go.Proofs.YtdanebboiekieaaGreatDoor
namespace Go.Proofs.YtdanebboiekieaaGreatDoor
open Go.RowKit
set_option linter.unusedSimpArgs false
set_option linter.unusedVariables false

def rowV (V : List (List Bool)) (t : Nat) : List Bool := V.getD t []
theorem rowV_get {V : List (List Bool)} {t : Nat} (h : t < V.length) : V[t] = rowV V t := by
 unfold rowV
 rw [List.getD_eq_getElem?_getD, List.getElem?_eq_getElem h]
 rfl
set_option maxRecDepth 100000 in
set_option maxHeartbeats 8000000 in
theorem BehindOf_calls (f : UFun) (n : Nat) (vb va vi : Value) (AH : List (List Int)) (V : List (List Bool)) (b : Nat) (w : World) (hn : f.regs = (n : Int)) (hn1 : n ≤ 100) (hnp : ∀ b ∈ f.blocks, b.phis = [])
 (hto : ∀ b ∈ f.blocks, ∀ t ∈ b.end_.to, 0 ≤ t ∧ t < (f.blocks.length : Int)) (hb : b < f.blocks.length)
 (h : rpBlk.SL w w.heap.size f.blocks vb) (ha : rpInt.slice.SL w w.heap.size AH va) (hal : AH.length = f.blocks.length) (hi : rpBool.slice.SL w w.heap.size V vi) (hil : V.length = f.blocks.length) (hrow : ∀ t, t < V.length → (rowV V t).length = n) (R : Ending → World → Prop)
 (hR : ∀ w' g S, Below w.heap.size w w' → w.heap.size ≤ g → SetAt g S w' → S.length = n → (∀ r, r < n → bAt S r = behB (fun t => bAt (rowV V t) r) f.blocks[b]) → R (.returned (.slice (some ⟨g, 0, none⟩) n n)) w') :
 Calls Tryz.prog 116 #[.agg #[.string f.name, .int .i64 f.params, .int .i64 f.regs, vb], va, vi, .int .i64 (b : Int)] w R := by
 obtain ⟨A, c, rfl, hmx, hcap, hs⟩ := h.cases_
 obtain ⟨Aa, ca, rfl, _, _, ha⟩ := ha.cases_
 obtain ⟨Ai, ci, rfl, _, _, hi⟩ := hi.cases_
 rw [hal] at ha ⊢
 rw [hil] at hi ⊢
 rw [hn]
 have HR := Lib.hid hR
 have Hs := Lib.hid hs
 have Ha := Lib.hid ha
 have Hi := Lib.hid hi
 have Hnp := Lib.hid hnp
 have Hto := Lib.hid hto
 have Hal := Lib.hid hal
 have Hil := Lib.hid hil
 have Hrow := Lib.hid hrow
 clear hR hs h ha hi hnp hto hal hil hrow hn
 obtain ⟨b1, off, vp, vl, vt, rfl, hb1, hp, hl, ht, q0, q1, q2, q3, q4, q5⟩ := Hs.out.blk_at hb
 obtain ⟨Ap, cp, rfl, _, _, hp⟩ := hp.cases_
 obtain ⟨Al, cl, rfl, _, _, hl⟩ := hl.cases_
 obtain ⟨At, ct, rfl, _, _, ht⟩ := ht.cases_
 have Hts := Lib.hid ht
 have Htr := Lib.hid (Hto.out _ (List.getElem_mem hb))
 generalize f.blocks[b] = bk at *
 have b0 : (0 : Int) ≤ (b : Int) := Int.natCast_nonneg _
 have b2 : (b : Int) < (f.blocks.length : Int) := by omega
 have hmk := make_set (w.alloc (Obj.cells #[.string f.name, .int .i64 f.params, .int .i64 (n : Int), .slice (some ⟨b1, off, none⟩) f.blocks.length c] 56)) n (by omega)
 obtain ⟨g, hg⟩ : ∃ g, g = w.heap.size + 1 := ⟨_, rfl⟩
 have hsz1 : (w.alloc (Obj.cells #[.string f.name, .int .i64 f.params, .int .i64 (n : Int), .slice (some ⟨b1, off, none⟩) f.blocks.length c] 56)).heap.size = g := by rw [hg]; simp
 obtain ⟨W2, hW2⟩ : ∃ W2, W2 = (w.alloc (Obj.cells #[.string f.name, .int .i64 f.params, .int .i64 (n : Int), .slice (some ⟨b1, off, none⟩) f.blocks.length c] 56)).alloc (.cells (bitsA (List.replicate n false)) 4) := ⟨_, rfl⟩
 rw [← hW2, hsz1] at hmk
 have hb2 : Below w.heap.size w W2 := by rw [hW2]; exact bl0
 have HF2 : Hid (W2.heap[w.heap.size]? = some (.cells #[.string f.name, .int .i64 f.params, .int .i64 (n : Int), .slice (some ⟨b1, off, none⟩) f.blocks.length c] 56 (0, 0))) := Lib.hid (by rw [hW2]; exact blk_alloc (heap_alloc_new _ _) _)
 have HS2 : Hid (SetAt g (List.replicate n false) W2) := Lib.hid (SetAt.of_blk (by rw [hW2, ← hsz1]; exact heap_alloc_new _ _))
 have Hb2 := Lib.hid hb2
 have hz2 := hb2.size
 have lb : b1 < W2.heap.size := by omega
 have r0 := (hb2.cell (p := ⟨b1, off + b * 6, none⟩) hb1).trans q0
 have r1 := (hb2.cell (p := ⟨b1, off + b * 6 + 1, none⟩) hb1).trans q1
 have r2 := (hb2.cell (p := ⟨b1, off + b * 6 + 2, none⟩) hb1).trans q2
 have r3 := (hb2.cell (p := ⟨b1, off + b * 6 + 3, none⟩) hb1).trans q3
 have r4 := (hb2.cell (p := ⟨b1, off + b * 6 + 4, none⟩) hb1).trans q4
 have r5 := (hb2.cell (p := ⟨b1, off + b * 6 + 5, none⟩) hb1).trans q5
 obtain ⟨e0, e1, e2, e3⟩ := fun_cells HF2.out
 have lF := blk_lt HF2.out
 have Hge : Hid (w.heap.size < g) := Lib.hid (by omega)
 have Hg2 := Lib.hid HS2.out.lt
 clear hW2 hsz1 hb2 hp hl ht q0 q1 q2 q3 q4 q5 hg
 go_enter Tryz.func116, Tryz.ntmps116
 go_wp2
 clear e0 e1 e2 e3 r0 r1 r2 r3 r4 r5 hmk
 go_loopg [31] bk.end_.to.length (fun gh s31 wr => ∃ (k : Nat) (S : List Bool), k ≤ bk.end_.to.length ∧ gh = bk.end_.to.length - k ∧ s31 = .int .i64 (k : Int) ∧ Hid (SetAt g S wr) ∧ Hid (S.length = n) ∧ Hid (∀ r, r < n → bAt S r = (bk.end_.to.take k).any (fun t => bAt (rowV V t.toNat) r)) ∧ Hid (Below w.heap.size w wr) ∧ Hid (wr.heap[w.heap.size]? = some (.cells #[.string f.name, .int .i64 f.params, .int .i64 (n : Int), .slice (some ⟨b1, off, none⟩) f.blocks.length c] 56 (0, 0))))
 case atStart => exact ⟨0, List.replicate n false, Nat.zero_le _, rfl, rfl, Lib.hid (HS2.out.alloc _), Lib.hid (by simp), Lib.hid (fun r _ => by rw [bAt_rep]; rfl), Lib.hid (Hb2.out.alloc Hb2.out.size _), Lib.hid (blk_alloc HF2.out _)⟩
 case round =>
  obtain ⟨k, S, hk, rfl, rfl, HS, Hlen, Hval, Hb, HF⟩ := hrel
  clear HS2 Hb2 HF2 Hg2
  have hz := Hb.out.size
  by_cases hlt : k < bk.end_.to.length
  ·obtain ⟨bt, ot, rfl, hbt, q0⟩ := Hts.out.int_at hlt
   have p0 := (Hb.out.cell (p := ⟨bt, ot + k, none⟩) hbt).trans q0
   have hgd : bk.end_.to.getD k 0 = bk.end_.to[k] := by rw [List.getD_eq_getElem?_getD, List.getElem?_eq_getElem hlt]; rfl
   obtain ⟨t, htt, htn⟩ : ∃ t : Nat, bk.end_.to.getD k 0 = (t : Int) ∧ t < f.blocks.length := by
    have := Htr.out bk.end_.to[k] (List.getElem_mem hlt)
    exact ⟨bk.end_.to[k].toNat, by rw [hgd]; omega, by omega⟩
   rw [htt] at p0
   have Hst : Hid (∀ r, (bk.end_.to.take (k + 1)).any (fun t => bAt (rowV V t.toNat) r) = ((bk.end_.to.take k).any (fun t => bAt (rowV V t.toNat) r) || bAt (rowV V t) r)) := Lib.hid fun r => by
    rw [any_take_step _ hlt, ← hgd, htt]
    rfl
   obtain ⟨b3, off3, vp2, vl2, vt2, hA3, hb3, hp2, hl2, ht2, s0, s1, s2, s3, s4, s5⟩ := Hs.out.blk_at htn
   cases hA3
   obtain ⟨Ap2, cp2, rfl, _, _, hp2⟩ := hp2.cases_
   obtain ⟨Al2, cl2, rfl, _, _, hl2⟩ := hl2.cases_
   obtain ⟨At2, ct2, rfl, _, _, ht2⟩ := ht2.cases_
   have Hph : Hid (f.blocks[t].phis.length = 0) := Lib.hid (by rw [Hnp.out _ (List.getElem_mem htn)]; rfl)
   generalize f.blocks[t] = bx at *
   have r0 := (Hb.out.cell (p := ⟨b1, off + t * 6, none⟩) hb3).trans s0
   have r1 := (Hb.out.cell (p := ⟨b1, off + t * 6 + 1, none⟩) hb3).trans s1
   have r2 := (Hb.out.cell (p := ⟨b1, off + t * 6 + 2, none⟩) hb3).trans s2
   have r3 := (Hb.out.cell (p := ⟨b1, off + t * 6 + 3, none⟩) hb3).trans s3
   have r4 := (Hb.out.cell (p := ⟨b1, off + t * 6 + 4, none⟩) hb3).trans s4
   have r5 := (Hb.out.cell (p := ⟨b1, off + t * 6 + 5, none⟩) hb3).trans s5
   obtain ⟨e0, e1, e2, e3⟩ := fun_cells HF.out
   have lF := blk_lt HF.out
   have lb1 : b1 < wr.heap.size := by omega
   have lbt : bt < wr.heap.size := by omega
   obtain ⟨bi, oi, ui, rfl, hbi, i0, hui⟩ := Hi.out.row_at (k := t) (by rw [Hil.out]; exact htn)
   rw [rowV_get] at hui
   obtain ⟨Au, cu, rfl, _, _, hui⟩ := hui.cases_
   have hlT : (rowV V t).length = n := Hrow.out t (by rw [Hil.out]; exact htn)
   rw [hlT] at hui i0
   obtain ⟨ba, oa, ua, rfl, hba, a0, hua⟩ := Ha.out.row_at (k := t) (by rw [Hal.out]; exact htn)
   have Hui := Lib.hid hui
   have Hua := Lib.hid hua
   have Ha0 := Lib.hid a0
   have Hba := Lib.hid hba
   have j0 := (Hb.out.cell (p := ⟨bi, oi + t, none⟩) hbi).trans i0
   have lbi : bi < wr.heap.size := by omega
   have t1 : (0 : Int) ≤ (t : Int) := Int.natCast_nonneg _
   have t2 : (t : Int) < (f.blocks.length : Int) := by omega
   have k1 : (0 : Int) ≤ (k : Int) := Int.natCast_nonneg _
   have k2 : (k : Int) < (bk.end_.to.length : Int) := by omega
   have Hbbi := Lib.hid hbi
   have HlT := Lib.hid hlT
   generalize rowV V t = T at *
   obtain ⟨gB, hgB⟩ : ∃ gB, gB = wr.heap.size := ⟨_, rfl⟩
   obtain ⟨W4, hW4⟩ : ∃ W4, W4 = wr.alloc (Obj.cells #[.slice Ap2 bx.phis.length cp2, .slice Al2 bx.list.length cl2, .int .i64 bx.end_.kind, .bool bx.end_.on.reg, .int .i64 bx.end_.on.n, .slice At2 bx.end_.to.length ct2] 68) := ⟨_, rfl⟩
   have hbw : Below wr.heap.size wr W4 := by subst hW4; exact bl0
   have HX4 : Hid (W4.heap[gB]? = some (.cells #[.slice Ap2 bx.phis.length cp2, .slice Al2 bx.list.length cl2, .int .i64 bx.end_.kind, .bool bx.end_.on.reg, .int .i64 bx.end_.on.n, .slice At2 bx.end_.to.length ct2] 68 (0, 0))) := Lib.hid (by subst hW4 hgB; exact heap_alloc_new _ _)
   have HF4 := Lib.hid ((hbw.block _ lF).trans HF.out)
   have HS4 := Lib.hid (HS.out.below hbw)
   have Hb4 := Lib.hid (Hb.out.trans (hbw.mono hz))
   have j4 := (hbw.cell (p := ⟨bi, oi + t, none⟩) lbi).trans j0
   have HW4 := Lib.hid hW4.symm
   have lbi4 : bi < W4.heap.size := Nat.lt_of_lt_of_le lbi hbw.size
   have hgne : gB ≠ g := by have := HS.out.lt; omega
   clear q0 s0 s1 s2 s3 s4 s5 hp2 hl2 ht2 hui hua a0 hba i0 hbi hbw hW4 hlT hgd htt
   go_upto_region 7 with fail
   rw [HW4.out]
   rw [← hgB]
   clear hgB p0 r0 r1 r2 r3 r4 r5 e0 e1 e2 e3 lb1 lbt lF j0 lbi HS Hb HF
   go_wp2
   clear j4
   go_loopg [45] n (fun gh s45 wx => ∃ (j : Nat) (S' : List Bool), j ≤ n ∧ gh = n - j ∧ s45 = .int .i64 (j : Int) ∧ Hid (SetAt g S' wx) ∧ Hid (S'.length = n) ∧ Hid (∀ r, r < n → bAt S' r = (bAt S r || (decide (r < j) && bAt T r))) ∧ Hid (Below w.heap.size w wx) ∧ Hid (wx.heap[w.heap.size]? = some (.cells #[.string f.name, .int .i64 f.params, .int .i64 (n : Int), .slice (some ⟨b1, off, none⟩) f.blocks.length c] 56 (0, 0))) ∧ Hid (wx.heap[gB]? = some (.cells #[.slice Ap2 bx.phis.length cp2, .slice Al2 bx.list.length cl2, .int .i64 bx.end_.kind, .bool bx.end_.on.reg, .int .i64 bx.end_.on.n, .slice At2 bx.end_.to.length ct2] 68 (0, 0))))
   case atStart => exact ⟨0, S, Nat.zero_le _, rfl, rfl, HS4, Hlen, Lib.hid (fun r _ => by simp), Hb4, HF4, HX4⟩
   case round =>
    obtain ⟨j, S', hj, rfl, rfl, HS', Hlen', Hval', Hb', HF', HX'⟩ := hrel
    clear HS4 Hb4 HF4 HX4
    have hz' := Hb'.out.size
    by_cases hjn : j < n
    ·obtain ⟨bu, ou, hAu, hbu, c0⟩ := Hui.out.bool_at (k := j) (by rw [HlT.out]; exact hjn)
     subst hAu
     have d0 := (Hb'.out.cell (p := ⟨bu, ou + j, none⟩) hbu).trans c0
     have d1 := HS'.out.cell (k := j) (by rw [Hlen'.out]; exact hjn)
     have f1 := HS'.out.frozen j
     have lg := HS'.out.lt
     have lbu : bu < wr.heap.size := by omega
     have j1 : (0 : Int) ≤ (j : Int) := Int.natCast_nonneg _
     have j2 : (j : Int) < (n : Int) := by omega
     have hS2 : SetAt g (S'.set j (bAt S' j || bAt T j)) (wr.setCell ⟨g, j, none⟩ (.bool (bAt S' j || bAt T j))) := HS'.out.set j _
     have hb2' : Below w.heap.size w (wr.setCell ⟨g, j, none⟩ (.bool (bAt S' j || bAt T j))) := Hb'.out.setCell (p := ⟨g, j, none⟩) (by have := Hge.out; show w.heap.size ≤ g; omega) _
     have hF2' : (wr.setCell ⟨g, j, none⟩ (.bool (bAt S' j || bAt T j))).heap[w.heap.size]? = some (.cells #[.string f.name, .int .i64 f.params, .int .i64 (n : Int), .slice (some ⟨b1, off, none⟩) f.blocks.length c] 56 (0, 0)) := (Below.heap_setCell _ _ _ _ (by have := Hge.out; show w.heap.size ≠ g; omega)).trans HF'.out
     have hX2' : (wr.setCell ⟨g, j, none⟩ (.bool (bAt S' j || bAt T j))).heap[gB]? = some (.cells #[.slice Ap2 bx.phis.length cp2, .slice Al2 bx.list.length cl2, .int .i64 bx.end_.kind, .bool bx.end_.on.reg, .int .i64 bx.end_.on.n, .slice At2 bx.end_.to.length ct2] 68 (0, 0)) := (Below.heap_setCell _ _ _ _ hgne).trans HX'.out
     have hv2 : ∀ r, r < n → bAt (S'.set j (bAt S' j || bAt T j)) r = (bAt S r || (decide (r < j + 1) && bAt T r)) := fun r hr => by
      rw [bAt_set (by rw [Hlen'.out]; exact hjn)]
      by_cases e : r = j
      ·subst e
       rw [if_pos rfl, Hval'.out r hr]
       simp
      ·rw [if_neg e, Hval'.out r hr]
       by_cases e2 : r < j
       ·simp [e2, show r < j + 1 from by omega]
       ·simp [e2, show ¬ r < j + 1 from by omega]
     have HS3 := Lib.hid hS2
     have Hb3 := Lib.hid hb2'
     have HF3 := Lib.hid hF2'
     have HX3 := Lib.hid hX2'
     have Hv3 := Lib.hid hv2
     have Hl3 : Hid ((S'.set j (bAt S' j || bAt T j)).length = n) := Lib.hid (by rw [List.length_set]; exact Hlen'.out)
     generalize hx : bAt S' j = x at *
     generalize hy : bAt T j = y at *
     clear c0 hS2 hb2' hF2' hX2' hv2 hbu hx hy
     cases x
     ·cases y
      ·go_wp2
       go_roundg (n - (j + 1))
       case measure => omega
       case rel => exact ⟨j + 1, _, by omega, rfl, by go_num, HS3, Hl3, Hv3, Hb3, HF3, HX3⟩
      ·go_wp2
       go_roundg (n - (j + 1))
       case measure => omega
       case rel => exact ⟨j + 1, _, by omega, rfl, by go_num, HS3, Hl3, Hv3, Hb3, HF3, HX3⟩
     ·go_wp2
      go_roundg (n - (j + 1))
      case measure => omega
      case rel => exact ⟨j + 1, _, by omega, rfl, by go_num, HS3, Hl3, Hv3, Hb3, HF3, HX3⟩
    ·obtain rfl : j = n := by omega
     have j2 : ¬ ((j : Int) < (j : Int)) := by omega
     have Hfin : Hid (∀ r, r < j → bAt S' r = (bk.end_.to.take (k + 1)).any (fun t => bAt (rowV V t.toNat) r)) := Lib.hid fun r hr => by
      rw [Hst.out, Hval'.out r hr, Hval.out r hr, decide_eq_true hr, Bool.true_and]
     obtain ⟨Au2, cu2, hUa, _, _, hua⟩ := Hua.out.cases_
     subst hUa
     have m0 := (Hb'.out.cell (p := ⟨ba, oa + t, none⟩) Hba.out).trans Ha0.out
     have lba : ba < wr.heap.size := by have := Hba.out; omega
     have Hidx := Lib.hid (hua.up Hb'.out hz')
     obtain ⟨x0, x1, x2, x3, x4, x5⟩ := blk6_cells HX'.out
     have lX := blk_lt HX'.out
     clear hua
     go_wp2_with fail
     refine idxInt_calls _ _ _ _ Hidx.out _ (fun ri => ?_)
     rw [Hph.out] at x0
     go_wp2
     go_loopg [70] 0 (fun gh s70 wy => s70 = .int .i64 0 ∧ wy = wr)
     case atStart => exact ⟨rfl, rfl⟩
     case round =>
      obtain ⟨rfl, rfl⟩ := hrel
      go_wp2
      go_roundg (bk.end_.to.length - (k + 1))
      case measure => omega
      case rel => exact ⟨k + 1, S', by omega, rfl, by go_num, HS', Hlen', Hfin, Hb', HF'⟩
  ·obtain rfl : k = bk.end_.to.length := by omega
   have k2 : ¬ ((bk.end_.to.length : Int) < (bk.end_.to.length : Int)) := by omega
   have Hfin := Lib.hid (HR.out wr g S Hb.out (Nat.le_of_lt Hge.out) HS.out Hlen.out (fun r hr => by rw [Hval.out r hr, List.take_length]; rfl))
   go_wp2
   exact Hfin.out
end Go.Proofs.YtdanebboiekieaaGreatDoor
