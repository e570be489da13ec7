/- code.checker: the end of a block, whichever; a phi. What is ahead of each block: code.ahead. -/
import Derived.Test.YtdanebboiekieaaGreatDoorQ01
import Derived.Test.YtdanebboiekieaaGreatDoorRows
import Derived.IntWalk
import Derived.Outline
import Derived.Deep.QuietTactic
import Derived.Deep.LoopGhost
import Derived.Test.YtdanebboiekieaaGreatDoorQ10
import Derived.Deep.CutBlock
import Derived.Deep.DeepCutAuto
import Derived.Test.YtdanebboiekieaaGreatDoorQ07
namespace Go.Proofs.YtdanebboiekieaaGreatDoor
open Go.RowKit
set_option linter.unusedSimpArgs false
set_option linter.unusedVariables false

set_option maxRecDepth 100000 in
set_option maxHeartbeats 1000000 in
theorem end_calls (gA fA bA aA : Option Addr) (gn gc fn fc bn bc' an ac : Nat) (nm : ByteArray) (pr rg : Int) (e : UEnd) (vt : Value) (hrg : I64 rg) (h0 : -9223372036854775807 ≤ rg) (hbn : bn ≤ maxLen) (w : World) (hW : Ways w)
 (ht : rpInt.SL w w.heap.size e.to vt) (R : Ending → World → Prop) (hR : ∀ w', Below w.heap.size w w' → R (.returned (.int .i64 (endF bn rg e))) w') :
 Calls Tryz.prog 135 #[(.agg #[.slice gA gn gc, .slice fA fn fc, .string nm, .int .i64 pr, .int .i64 rg, .slice bA bn bc', .slice aA an ac]), .agg #[.int .i64 e.kind, .bool e.on.reg, .int .i64 e.on.n, vt]] w R := by
 obtain ⟨A, c, rfl, _, _, ht⟩ := ht.cases_
 obtain ⟨kind, on, ts⟩ := e
 by_cases hk : ¬ (1 ≤ kind ∧ kind ≤ 3)
 ·have e : endF bn rg ⟨kind, on, ts⟩ = 4 := by unfold endF; rw [if_pos hk]
  rw [e] at hR
  have hd : decide (1 ≤ kind ∧ kind ≤ 3) = false := by simpa using hk
  have HR := Lib.hid hR
  clear hR e hk ht
  go_enter Tryz.func135, Tryz.ntmps135
  go_wp2_with (refine Within_calls _ _ _ _ _ ?_; rw [hd])
  exact HR.out _ bl0
 have hk := Decidable.of_not_not hk
 rcases (by omega : kind = 1 ∨ kind = 2 ∨ kind = 3) with rfl | rfl | rfl
 ·exact end1_calls' gA fA bA aA gn gc fn fc bn bc' an ac nm pr rg on ts A c hrg h0 hbn w hW ht R hR
 ·exact end2_calls' gA fA bA aA gn gc fn fc bn bc' an ac nm pr rg on ts A c hrg h0 hbn w hW ht R hR
 ·exact end3_calls' gA fA bA aA gn gc fn fc bn bc' an ac nm pr rg on ts A c hrg h0 hbn w hW ht R hR

theorem Rp.SL.row_at {α : Type} {r : Rp α} {w : World} {B : Nat} {xs : List (List α)} {A : Option Addr} {n c k : Nat} (h : r.slice.SL w B xs (.slice A n c)) (hk : k < xs.length) : ∃ b off u, A = some ⟨b, off, none⟩ ∧ b < B ∧ w.cell? ⟨b, off + k, none⟩ = some u ∧ r.SL w B xs[k] u := by
 obtain ⟨b, off, cs, hA, hb, ⟨u, rfl, hu⟩, hcs⟩ := h.at_ (List.getElem?_eq_getElem hk)
 have := hcs 0 _ rfl
 exact ⟨b, off, u, hA, hb, by simpa [Rp.slice] using this, hu⟩
/-- A phi, by the rows of what is ahead. -/
def phiG (regs : Int) (AH : List (List Int)) (k : Nat) (p : UPhi) : Int :=
 if k = 0 then 5 else if dstF regs p.dst ≠ 0 then dstF regs p.dst
 else if p.from_.length ≠ (AH.getD k []).length then 9 else valsF regs p.from_
set_option maxRecDepth 100000 in
set_option maxHeartbeats 4000000 in
theorem phi_calls (gA fA bA aA : Option Addr) (gn gc fn fc bn bc' an ac : Nat) (nm : ByteArray) (pr rg : Int) (AH : List (List Int)) (k : Nat) (p : UPhi) (vf : Value) (hrg : I64 rg) (h0 : -9223372036854775807 ≤ rg) (w : World) (hk : k < AH.length)
 (ha : rpInt.slice.SL w w.heap.size AH (.slice aA an ac)) (hf : rpVal.SL w w.heap.size p.from_ vf) (R : Ending → World → Prop) (hR : ∀ w', Below w.heap.size w w' → R (.returned (.int .i64 (phiG rg AH k p))) w') :
 Calls Tryz.prog 137 #[(.agg #[.slice gA gn gc, .slice fA fn fc, .string nm, .int .i64 pr, .int .i64 rg, .slice bA bn bc', .slice aA an ac]), .int .i64 (k : Int), .agg #[.int .i64 p.dst, vf]] w R := by
 obtain ⟨A, c, rfl, _, _, hf⟩ := hf.cases_
 have HR := Lib.hid hR
 have Ha := Lib.hid ha
 have Hf := Lib.hid hf
 have ham := ha.max
 have han := ha.len
 unfold maxLen at ham
 subst han
 clear hR ha hf
 by_cases hz : k = 0
 ·have e : phiG rg AH k p = 5 := by unfold phiG; rw [if_pos hz]
  rw [e] at HR
  subst hz
  go_enter Tryz.func137, Tryz.ntmps137
  go_wp2
  exact HR.out _ bl0
 have hzb : ((k : Int) == 0) = false := by simp; omega
 by_cases hd : ¬ dstF rg p.dst = 0
 ·have e : phiG rg AH k p = dstF rg p.dst := by unfold phiG; rw [if_neg hz, if_pos hd]
  rw [e] at HR
  have hdb : (dstF rg p.dst != 0) = true := by simpa using hd
  clear hd e
  go_enter Tryz.func137, Tryz.ntmps137
  go_wp2_with fail
  refine dst_calls gA fA bA aA gn gc fn fc bn bc' _ ac nm pr rg p.dst hrg _ h0 _ (fun w1 hb1 => ?_)
  have Hfin := Lib.hid (HR.out _ ((by exact bl0 : Below w.heap.size w _).trans (hb1.mono (by simp; omega))))
  clear hb1
  go_wp2
  exact Hfin.out
 have hd := Decidable.of_not_not hd
 obtain ⟨ba, oa, u, rfl, hba, q0, hu⟩ := Ha.out.row_at hk
 obtain ⟨A2, c2, rfl, _, _, hu⟩ := hu.cases_
 have k1 : (0 : Int) ≤ (k : Int) := Int.natCast_nonneg _
 have k2 : (k : Int) < (AH.length : Int) := by omega
 have hG : AH.getD k [] = AH[k] := by rw [List.getD_eq_getElem?_getD, List.getElem?_eq_getElem hk]; rfl
 obtain ⟨X0, hX0⟩ : ∃ X0, X0 = (w.alloc (Obj.cells #[.slice gA gn gc, .slice fA fn fc, .string nm, .int .i64 pr, .int .i64 rg, .slice bA bn bc', .slice (some ⟨ba, oa, none⟩) AH.length ac] 171)).alloc (Obj.cells #[.int .i64 p.dst, .slice A p.from_.length c] 164) := ⟨_, rfl⟩
 have HC : Hid (X0.heap[w.heap.size]? = some (.cells #[.slice gA gn gc, .slice fA fn fc, .string nm, .int .i64 pr, .int .i64 rg, .slice bA bn bc', .slice (some ⟨ba, oa, none⟩) AH.length ac] 171 (0, 0))) := Lib.hid (by subst hX0; exact blk_alloc (heap_alloc_new _ _) _)
 have HX : Hid (X0.heap[w.heap.size + 1]? = some (.cells #[.int .i64 p.dst, .slice A p.from_.length c] 164 (0, 0))) := Lib.hid (by
  subst hX0
  have := heap_alloc_new (w.alloc (Obj.cells #[.slice gA gn gc, .slice fA fn fc, .string nm, .int .i64 pr, .int .i64 rg, .slice bA bn bc', .slice (some ⟨ba, oa, none⟩) AH.length ac] 171)) (Obj.cells #[.int .i64 p.dst, .slice A p.from_.length c] 164)
  simpa using this)
 have Hbx : Hid (Below w.heap.size w X0) := Lib.hid (by subst hX0; exact bl0)
 have hsx : X0.heap.size = w.heap.size + 2 := by subst hX0; simp
 have HW := Lib.hid hX0.symm
 clear hX0
 have pre : ∀ w1, Below X0.heap.size X0 w1 → w1.cell? ⟨ba, oa + k, none⟩ = some (.slice A2 AH[k].length c2) ∧ ba < w1.heap.size := fun w1 hb1 => ⟨((Hbx.out.trans (hb1.mono Hbx.out.size)).cell (p := ⟨ba, oa + k, none⟩) hba).trans q0, by have := hb1.size; omega⟩
 have Pre := Lib.hid pre
 clear pre q0
 by_cases hl : ¬ p.from_.length = AH[k].length
 ·have e : phiG rg AH k p = 9 := by unfold phiG; rw [if_neg hz, if_neg (by simpa using hd), hG, if_pos hl]
  rw [e] at HR
  have hdb : (dstF rg p.dst != 0) = false := by simpa using hd
  have hlb : ((p.from_.length : Int) != (AH[k].length : Int)) = true := by simp; omega
  generalize AH[k] = row at *
  clear e hG hu hl
  go_enter Tryz.func137, Tryz.ntmps137
  go_wp2_with fail
  rw [HW.out]
  refine dst_calls gA fA bA _ gn gc fn fc bn bc' _ ac nm pr rg p.dst hrg _ h0 _ (fun w1 hb1 => ?_)
  rw [hd]
  obtain ⟨p0, lb⟩ := Pre.out w1 hb1
  obtain ⟨c0, c1, c2, c3, c4, c5, c6⟩ := ckr_cells ((hb1.block _ (blk_lt HC.out)).trans HC.out)
  obtain ⟨x0, x1⟩ := cells_blk ((hb1.block _ (blk_lt HX.out)).trans HX.out)
  have lc := blk_lt ((hb1.block _ (blk_lt HC.out)).trans HC.out)
  have lx := blk_lt ((hb1.block _ (blk_lt HX.out)).trans HX.out)
  have Hfin := Lib.hid (fun n => HR.out _ (below_drewN (Hbx.out.trans (hb1.mono Hbx.out.size)) n))
  clear hb1
  go_wp2_with fail
  go_quiet (fail)
  go_wp2
  exact Hfin.out _
 have hl := Decidable.of_not_not hl
 have e : phiG rg AH k p = valsF rg p.from_ := by unfold phiG; rw [if_neg hz, if_neg (by simpa using hd), hG, if_neg (by omega)]
 rw [e] at HR
 have hdb : (dstF rg p.dst != 0) = false := by simpa using hd
 have hlb : ((p.from_.length : Int) != (AH[k].length : Int)) = false := by simp; omega
 generalize AH[k] = row at *
 clear e hG hu hl
 go_enter Tryz.func137, Tryz.ntmps137
 go_wp2_with fail
 rw [HW.out]
 refine dst_calls gA fA bA _ gn gc fn fc bn bc' _ ac nm pr rg p.dst hrg _ h0 _ (fun w1 hb1 => ?_)
 rw [hd]
 obtain ⟨p0, lb⟩ := Pre.out w1 hb1
 have hC1 := (hb1.block _ (blk_lt HC.out)).trans HC.out
 have hX1 := (hb1.block _ (blk_lt HX.out)).trans HX.out
 have HC1 := Lib.hid hC1
 obtain ⟨c0, c1, c2, c3, c4, c5, c6⟩ := ckr_cells hC1
 obtain ⟨x0, x1⟩ := cells_blk hX1
 have lc := blk_lt hC1
 have lx := blk_lt hX1
 have Hb1 := Lib.hid (Hbx.out.trans (hb1.mono Hbx.out.size))
 have Hf1 := Lib.hid (Hf.out.up Hb1.out Hb1.out.size)
 clear hb1 hC1 hX1
 go_wp2_with fail
 go_quiet (fail)
 go_wp2
 go_loopg [9, 10, 33] p.from_.length (fun gh s9 s10 s33 wr => ∃ j : Nat, j ≤ p.from_.length ∧ gh = p.from_.length - j ∧ s33 = .int .i64 (j : Int) ∧ valsF rg (p.from_.take j) = 0 ∧ Below w1.heap.size w1 wr)
 case atStart => exact ⟨0, Nat.zero_le _, rfl, rfl, rfl, bl0⟩
 case round =>
  obtain ⟨j, hj, rfl, rfl, hzj, hbel⟩ := hrel
  have Hz := Lib.hid hzj
  have Hbel := Lib.hid hbel
  have hsz := hbel.size
  clear hzj hbel
  by_cases hlt : j < p.from_.length
  ·obtain ⟨bv, ov, rfl, hbv, a0, a1⟩ := Hf1.out.val_at hlt
   have j1 : (0 : Int) ≤ (j : Int) := Int.natCast_nonneg _
   have j2 : (j : Int) < (p.from_.length : Int) := by omega
   have a0' := (Hbel.out.cell (p := ⟨bv, ov + j * 2, none⟩) hbv).trans a0
   have a1' := (Hbel.out.cell (p := ⟨bv, ov + j * 2 + 1, none⟩) hbv).trans a1
   have lbv : bv < wr.heap.size := by omega
   obtain ⟨m0, m1, m2, m3, m4, m5, m6⟩ := ckr_cells ((Hbel.out.block _ lc).trans HC1.out)
   have lcr : w.heap.size < wr.heap.size := by omega
   have Hyes : Hid (valF rg p.from_[j] = 0 → valsF rg (p.from_.take (j + 1)) = 0) := Lib.hid fun h => valsF_take hlt Hz.out h
   have Hno : Hid (valF rg p.from_[j] ≠ 0 → valsF rg p.from_ = valF rg p.from_[j]) := Lib.hid fun h => valsF_at hlt Hz.out h
   generalize p.from_[j] = a at *
   clear c0 c1 c2 c3 c4 c5 c6 x0 x1 p0
   go_wp2_with fail
   refine val_calls gA fA bA _ gn gc fn fc bn bc' _ ac nm pr rg a hrg _ h0 _ ?_
   intro w2 hb2
   have Hb2 := Lib.hid (Hbel.out.trans ((by exact bl0 : Below wr.heap.size wr (wr.alloc (Obj.cells #[.bool a.reg, .int .i64 a.n] 64))).trans (hb2.mono (by simp)) |>.mono hsz))
   clear hb2
   by_cases hv : valF rg a = 0
   ·have hvb : (valF rg a != 0) = false := by simp [hv]
    have hy := Lib.hid (Hyes.out hv)
    clear Hyes Hno
    go_wp2
    go_roundg (p.from_.length - (j + 1))
    case measure => omega
    case rel => exact ⟨j + 1, by omega, rfl, by go_num, hy.out, Hb2.out⟩
   ·have hvb : (valF rg a != 0) = true := by simp [hv]
    have hy := Lib.hid (Hno.out hv)
    have Hfin := Lib.hid (HR.out _ (Hb1.out.trans (Hb2.out.mono Hb1.out.size)))
    rw [hy.out] at Hfin
    clear Hyes Hno
    go_wp2
    exact Hfin.out
  ·obtain rfl : j = p.from_.length := by omega
   have j2 : ¬ ((p.from_.length : Int) < (p.from_.length : Int)) := by omega
   have Hfin := Lib.hid (HR.out _ (Hb1.out.trans (Hbel.out.mono Hb1.out.size)))
   rw [show valsF rg p.from_ = 0 from by have := Hz.out; rwa [List.take_length] at this] at Hfin
   go_wp2
   exact Hfin.out
end Go.Proofs.YtdanebboiekieaaGreatDoor
namespace Go.Proofs.YtdanebboiekieaaGreatDoor
open Go.RowKit
set_option linter.unusedSimpArgs false
set_option linter.unusedVariables false

theorem fun_cells {w : World} {b : Nat} {v0 v1 v2 v3 : Value} {T : TypeId} (h : w.heap[b]? = some (.cells #[v0, v1, v2, v3] T (0, 0))) :
 w.cell? ⟨b, 0, none⟩ = some v0 ∧ w.cell? ⟨b, 1, none⟩ = some v1 ∧ w.cell? ⟨b, 2, none⟩ = some v2 ∧ w.cell? ⟨b, 3, none⟩ = some v3 := by
 refine ⟨?_, ?_, ?_, ?_⟩ <;> (rw [blk_cells h]; rfl)
theorem blk6_cells {w : World} {b : Nat} {v0 v1 v2 v3 v4 v5 : Value} {T : TypeId} (h : w.heap[b]? = some (.cells #[v0, v1, v2, v3, v4, v5] T (0, 0))) :
 w.cell? ⟨b, 0, none⟩ = some v0 ∧ w.cell? ⟨b, 1, none⟩ = some v1 ∧ w.cell? ⟨b, 2, none⟩ = some v2 ∧ w.cell? ⟨b, 3, none⟩ = some v3 ∧ w.cell? ⟨b, 4, none⟩ = some v4 ∧ w.cell? ⟨b, 5, none⟩ = some v5 := by
 refine ⟨?_, ?_, ?_, ?_, ?_, ?_⟩ <;> (rw [blk_cells h]; rfl)
/-- Rows by edges. -/
def rowE (E : List (Int × Int)) (t : Nat) : List Int := (E.filter fun e => decide (e.2 = (t : Int))).map (·.1)
def tabE (n : Nat) (E : List (Int × Int)) : List (List Int) := (List.range n).map (rowE E)
def aheadT (l : List UBlk) : List (List Int) := (List.range l.length).map fun t : Nat => aheadL l (t : Int)
theorem tabE_len (n : Nat) (E : List (Int × Int)) : (tabE n E).length = n := by simp [tabE]
theorem tabE_at {n : Nat} {E : List (Int × Int)} {t : Nat} (h : t < n) : atI (tabE n E) t = rowE E t := by
 unfold atI tabE
 rw [List.getD_eq_getElem?_getD, List.getElem?_map, List.getElem?_range h]
 rfl
theorem tabE_nil (n : Nat) : tabE n [] = List.replicate n [] := by
 refine ext_atI (by simp [tabE_len]) fun i hi => ?_
 rw [tabE_len] at hi
 rw [tabE_at hi]
 unfold atI rowE
 simp [List.getD_eq_getElem?_getD, List.getElem?_replicate, hi]
theorem rowE_snoc (E : List (Int × Int)) (i : Int) (t u : Nat) : rowE (E ++ [(i, (t : Int))]) u = if u = t then rowE E u ++ [i] else rowE E u := by
 unfold rowE
 rw [List.filter_append, List.map_append]
 by_cases h : u = t
 ·subst h; simp
 ·have : ¬ (t : Int) = (u : Int) := by omega
  simp [h, this]
theorem tabE_push {n : Nat} {E : List (Int × Int)} {i : Int} {t : Nat} (h : t < n) : tabE n (E ++ [(i, (t : Int))]) = (tabE n E).set t (rowE E t ++ [i]) := by
 refine ext_atI (by simp [tabE_len]) fun u hu => ?_
 rw [tabE_len] at hu
 rw [tabE_at hu, atI_set (by rw [tabE_len]; exact h), tabE_at hu, rowE_snoc]
 by_cases e : u = t
 ·subst e; simp
 ·simp [e]
theorem tabE_all (l : List UBlk) : tabE l.length (edgesTo l l.length) = aheadT l := rfl
theorem rowE_len (E : List (Int × Int)) (t : Nat) : (rowE E t).length ≤ E.length := by
 unfold rowE
 rw [List.length_map]
 exact List.length_filter_le _ _
theorem edgesTo_step {l : List UBlk} {i : Nat} (h : i < l.length) : edgesTo l (i + 1) = edgesTo l i ++ l[i].end_.to.map fun t => ((i : Int), t) := by
 rw [edgesTo, List.getElem?_eq_getElem h]
theorem edgesTo_len {l : List UBlk} (h : ∀ b ∈ l, b.end_.to.length ≤ 2) : ∀ i, (edgesTo l i).length ≤ 2 * i
 | 0 => by simp [edgesTo]
 | i + 1 => by
   have ih := edgesTo_len h i
   rw [edgesTo, List.length_append]
   split
   ·simp; omega
   ·rename_i b hb
    have := h b (List.mem_of_getElem? hb)
    rw [List.length_map]
    omega
set_option maxRecDepth 100000 in
set_option maxHeartbeats 8000000 in
theorem ahead_calls (nm : ByteArray) (pr rg : Int) (l : List UBlk) (v : Value) (w : World) (h : rpBlk.SL w w.heap.size l v) (h40 : l.length ≤ 40) (hok : ∀ b ∈ l, b.end_.to.length ≤ 2 ∧ ∀ t ∈ b.end_.to, 0 ≤ t ∧ t < (l.length : Int)) (R : Ending → World → Prop)
 (hR : ∀ w' v', Below w.heap.size w w' → rpInt.slice.SLF w' w.heap.size w'.heap.size (aheadT l) v' → R (.returned v') w') :
 Calls Tryz.prog 136 #[.agg #[.string nm, .int .i64 pr, .int .i64 rg, v]] w R := by
 obtain ⟨A, c, rfl, hmx, hcap, hs⟩ := h.cases_
 have HR := Lib.hid hR
 have Hs := Lib.hid hs
 have Hok := Lib.hid hok
 clear hR hs h hok
 have hmk := make_rows (w.alloc (Obj.cells #[.string nm, .int .i64 pr, .int .i64 rg, .slice A l.length c] 56)) l.length (by omega)
 obtain ⟨g, hg⟩ : ∃ g, g = w.heap.size + 1 := ⟨_, rfl⟩
 obtain ⟨W2, hW2⟩ : ∃ W2, W2 = (w.alloc (Obj.cells #[.string nm, .int .i64 pr, .int .i64 rg, .slice A l.length c] 56)).alloc (.cells (List.replicate l.length (Value.slice none 0 0)).toArray 26) := ⟨_, rfl⟩
 have hsz : (w.alloc (Obj.cells #[.string nm, .int .i64 pr, .int .i64 rg, .slice A l.length c] 56)).heap.size = g := by rw [hg]; simp
 have hblk2 : W2.heap[g]? = some (.cells (List.replicate l.length (Value.slice none 0 0)).toArray 26 (0, 0)) := by rw [hW2, ← hsz]; exact heap_alloc_new _ _
 rw [← hW2, hsz] at hmk
 have hb2 : Below w.heap.size w W2 := by rw [hW2]; exact bl0
 have hE2 : W2.heap[w.heap.size]? = some (.cells #[.string nm, .int .i64 pr, .int .i64 rg, .slice A l.length c] 56 (0, 0)) := by rw [hW2]; exact blk_alloc (heap_alloc_new _ _) _
 have Hb2 := Lib.hid hb2
 have Hblk2 := Lib.hid hblk2
 have HE2 := Lib.hid hE2
 have Htab2 : Hid (Tab W2 (g + 1) (List.replicate l.length (.slice none 0 0)) (tabE l.length (edgesTo l 0))) := Lib.hid (by rw [edgesTo, tabE_nil]; exact Tab.first)
 have hgw : w.heap.size < g := by omega
 obtain ⟨e0, e1, e2, e3⟩ := fun_cells hE2
 have hlE := blk_lt hE2
 have hsz2 := hb2.size
 clear hW2 hb2 hblk2 hE2 hg hsz
 go_enter Tryz.func136, Tryz.ntmps136
 go_wp2
 clear e0 e1 e2 e3 hlE
 go_loopg [15] l.length (fun gh s15 wr => ∃ (i : Nat) (V : List Value), i ≤ l.length ∧ gh = l.length - i ∧ s15 = .int .i64 (i : Int) ∧ Hid (Tab wr (g + 1) V (tabE l.length (edgesTo l i))) ∧ Hid (Below w.heap.size w wr) ∧ Hid (wr.heap[g]? = some (.cells V.toArray 26 (0, 0))))
 case atStart => exact ⟨0, _, Nat.zero_le _, rfl, rfl, Htab2, Hb2, Hblk2⟩
 case round =>
  obtain ⟨i, V, hi, rfl, rfl, Htab, Hb, Hblk⟩ := hrel
  clear Htab2 Hb2 Hblk2 HE2 hmk
  have hz := Hb.out.size
  by_cases hlt : i < l.length
  ·obtain ⟨b, off, vp, vl, vt, rfl, hb, hp, hl, ht, q0, q1, q2, q3, q4, q5⟩ := Hs.out.blk_at hlt
   obtain ⟨Ap, cp, rfl, _, _, hp⟩ := hp.cases_
   obtain ⟨Al, cl, rfl, _, _, hl⟩ := hl.cases_
   obtain ⟨At, ct, rfl, _, _, ht⟩ := ht.cases_
   have i1 : (0 : Int) ≤ (i : Int) := Int.natCast_nonneg _
   have i2 : (i : Int) < (l.length : Int) := by omega
   have lb : b < wr.heap.size := by omega
   have r0 := (Hb.out.cell (p := ⟨b, off + i * 6, none⟩) hb).trans q0
   have r1 := (Hb.out.cell (p := ⟨b, off + i * 6 + 1, none⟩) hb).trans q1
   have r2 := (Hb.out.cell (p := ⟨b, off + i * 6 + 2, none⟩) hb).trans q2
   have r3 := (Hb.out.cell (p := ⟨b, off + i * 6 + 3, none⟩) hb).trans q3
   have r4 := (Hb.out.cell (p := ⟨b, off + i * 6 + 4, none⟩) hb).trans q4
   have r5 := (Hb.out.cell (p := ⟨b, off + i * 6 + 5, none⟩) hb).trans q5
   have Hto := Lib.hid (Hok.out _ (List.getElem_mem hlt))
   have Hst : Hid (edgesTo l (i + 1) = edgesTo l i ++ l[i].end_.to.map fun t => ((i : Int), t)) := Lib.hid (edgesTo_step hlt)
   have Helen := Lib.hid (edgesTo_len (l := l) (fun b hb => (Hok.out b hb).1) i)
   have Hti := Lib.hid ht
   generalize l[i].end_.to = ts at *
   generalize l[i] = bk at *
   obtain ⟨W3, hW3⟩ : ∃ W3, W3 = wr.alloc (Obj.cells #[.slice Ap bk.phis.length cp, .slice Al bk.list.length cl, .int .i64 bk.end_.kind, .bool bk.end_.on.reg, .int .i64 bk.end_.on.n, .slice At ts.length ct] 68) := ⟨_, rfl⟩
   have hbw : Below wr.heap.size wr W3 := by subst hW3; exact bl0
   have hB3 := Hb.out.trans (hbw.mono hz)
   have hX3 : W3.heap[wr.heap.size]? = some (.cells #[.slice Ap bk.phis.length cp, .slice Al bk.list.length cl, .int .i64 bk.end_.kind, .bool bk.end_.on.reg, .int .i64 bk.end_.on.n, .slice At ts.length ct] 68 (0, 0)) := by subst hW3; exact heap_alloc_new _ _
   have hV3 := (hbw.block _ (blk_lt Hblk.out)).trans Hblk.out
   have HT3 := Lib.hid (Htab.out.keep (fun k _ hl => hbw.block k hl))
   have HB3 := Lib.hid hB3
   have HV3 := Lib.hid hV3
   have Hts3 := Lib.hid (Hti.out.up hB3 hB3.size)
   have HW3 := Lib.hid hW3.symm
   have hlX := blk_lt hX3
   obtain ⟨x0, x1, x2, x3, x4, x5⟩ := blk6_cells hX3
   have hgsz : g < wr.heap.size := blk_lt Hblk.out
   have HE3 : Hid (tabE l.length (edgesTo l i ++ (ts.take 0).map fun t => ((i : Int), t)) = tabE l.length (edgesTo l i)) := Lib.hid (by simp)
   clear Htab Hb Hblk hbw hB3 hV3 hX3 hW3 hp hl ht q0 q1 q2 q3 q4 q5
   go_upto_region 5 with fail
   rw [HW3.out]
   go_wp2
   clear r0 r1 r2 r3 r4 r5 x0 x1 x2 x3 x4 x5 hlX lb HW3
   go_loopg [24] ts.length (fun gh s24 wx => ∃ (j : Nat) (V' : List Value), j ≤ ts.length ∧ gh = ts.length - j ∧ s24 = .int .i64 (j : Int) ∧ Hid (Tab wx (g + 1) V' (tabE l.length (edgesTo l i ++ (ts.take j).map fun t => ((i : Int), t)))) ∧ Hid (Below w.heap.size w wx) ∧ Hid (wx.heap[g]? = some (.cells V'.toArray 26 (0, 0))))
   case atStart => exact ⟨0, V, Nat.zero_le _, rfl, rfl, by rw [HE3.out]; exact HT3, HB3, HV3⟩
   case round =>
    obtain ⟨j, V', hj, rfl, rfl, Htab6, Hb6, HblkV6⟩ := hrel
    clear HT3 HB3 HV3 HE3
    have hz6 := Hb6.out.size
    by_cases hlj : j < ts.length
    ·obtain ⟨bt, ot, rfl, hbt, q0⟩ := Hti.out.int_at hlj
     have p0 := (Hb6.out.cell (p := ⟨bt, ot + j, none⟩) hbt).trans q0
     have hgd : ts.getD j 0 = ts[j] := by rw [List.getD_eq_getElem?_getD, List.getElem?_eq_getElem hlj]; rfl
     obtain ⟨t, htt, htn⟩ : ∃ t : Nat, ts.getD j 0 = (t : Int) ∧ t < l.length := by
      have := Hto.out.2 ts[j] (List.getElem_mem hlj)
      exact ⟨ts[j].toNat, by rw [hgd]; omega, by omega⟩
     have Hm : Hid (tabE l.length (edgesTo l i ++ (ts.take (j + 1)).map fun t => ((i : Int), t)) = (tabE l.length (edgesTo l i ++ (ts.take j).map fun t => ((i : Int), t))).set t (rowE (edgesTo l i ++ (ts.take j).map fun t => ((i : Int), t)) t ++ [(i : Int)])) := Lib.hid (by
      rw [List.take_succ_eq_append_getElem hlj, List.map_append, ← List.append_assoc, ← tabE_push htn, ← htt, hgd]
      rfl)
     have hEl : (edgesTo l i ++ (ts.take j).map fun t => ((i : Int), t)).length ≤ 100 := by
      rw [List.length_append, List.length_map, List.length_take]
      have := Helen.out
      have := Hto.out.1
      omega
     have hfw : (rowE (edgesTo l i ++ (ts.take j).map fun t => ((i : Int), t)) t).length ≤ 100 := Nat.le_trans (rowE_len _ _) hEl
     rw [htt] at p0
     have hTL := tabE_len l.length (edgesTo l i ++ (ts.take j).map fun t => ((i : Int), t))
     have hVl : t < V'.length := by rw [Htab6.out.len, hTL]; exact htn
     have hkT : t < (tabE l.length (edgesTo l i ++ (ts.take j).map fun t => ((i : Int), t))).length := by rw [hTL]; exact htn
     have ho := Htab6.out.own t hkT
     rw [tabE_at htn] at ho
     have q2 : wr.cell? ⟨g, t, none⟩ = some (atT V' t) := by
      rw [blk_cells HblkV6.out]
      unfold atT
      rw [List.getD_eq_getElem?_getD, List.getElem?_eq_getElem hVl]
      simp [hVl]
     obtain ⟨A6, c6, hs6⟩ := own_slice ho
     have n1 := Htab6.out.not hkT HblkV6.out (by decide)
     generalize rowE (edgesTo l i ++ (ts.take j).map fun t => ((i : Int), t)) t = X at *
     have hpush := fun (W1 : World) (hk1 : ∀ k, g + 1 ≤ k → k < wr.heap.size → W1.heap[k]? = wr.heap[k]?) (w' : World) (v' : Value) (h1 : w'.ownsRow (g + 1) 3 1 v' (X ++ [(i : Int)]).length ((X ++ [(i : Int)]).flatMap intCells)) => (Htab6.out.keep hk1).push (w' := w') hkT h1
     have hlo := fun j (e : (atT V' t).ownBlock = some j) => (Htab6.out.lt hkT e).1
     rw [hs6] at hlo
     have Hlo := Lib.hid hlo
     rw [hs6] at q2 ho n1 hpush
     have Ho := Lib.hid ho
     have Hpush := Lib.hid hpush
     have Hn := Lib.hid n1
     have HVl := Lib.hid hVl
     have Hfw := Lib.hid hfw
     have lG := blk_lt HblkV6.out
     have t1 : (0 : Int) ≤ (t : Int) := Int.natCast_nonneg _
     have t2 : (t : Int) < (l.length : Int) := by omega
     have j1 : (0 : Int) ≤ (j : Int) := Int.natCast_nonneg _
     have j2 : (j : Int) < (ts.length : Int) := by omega
     have lbt : bt < wr.heap.size := by omega
     clear hTL ho hpush n1 hVl hs6 hkT hfw hEl q0 hgd hlo
     have Hbt := Lib.hid hbt
     clear hbt
     have f2 : wr.frozen? ⟨g, t, none⟩ = false := by simp [World.frozen?, HblkV6.out]
     have Hal := Lib.hid (show ∀ k, g + 1 ≤ k → k < wr.heap.size → (wr.alloc (Obj.cells #[.int .i64 (i : Int)] 3)).heap[k]? = wr.heap[k]? from fun k _ hl => (by exact bl0 : Below wr.heap.size wr (wr.alloc (Obj.cells #[.int .i64 (i : Int)] 3))).block k hl)
     have Hbal := Lib.hid (Hb6.out.alloc hz6 (Obj.cells #[.int .i64 (i : Int)] 3))
     have hgr : g + 1 ≤ (wr.alloc (Obj.cells #[.int .i64 (i : Int)] 3)).heap.size := by simp; omega
     go_wp2_with (at_builtin; refine app_one rfl _ _ rfl (v := .slice A6 X.length c6) rfl (Ho.out.alloc _) wr.heap.size (i : Int) rfl (heap_alloc_new _ _) Hfw.out hgr ?_)
     intro v7 w7 hown7 hg7 hat7
     have hown8 : w7.ownsRow (g + 1) 3 1 v7 (X ++ [(i : Int)]).length ((X ++ [(i : Int)]).flatMap intCells) := by simpa using hown7
     clear hown7
     have Htab7 := Hpush.out _ Hal.out _ _ hown8 hg7 (by rw [show (wr.alloc (Obj.cells #[.int .i64 (i : Int)] 3)).heap.size = wr.heap.size + 1 from by simp]; exact hat7)
     have hV7 := (hg7.block _ (by simp; omega) Hn.out).trans (blk_alloc HblkV6.out _)
     have hb7 := Hbal.out.trans ((Grew.of_grown hg7).below (B := w.heap.size) (fun j hj e => by have := Hlo.out j e; omega) (by simp; omega))
     obtain ⟨A7, c7, rfl⟩ := own_slice hown8
     have q7 : w7.cell? ⟨g, t, none⟩ = some (.slice A6 X.length c6) := hg7.cell (by rw [World.cell?_alloc_lt _ _ _ (show g < wr.heap.size from lG)]; exact q2) Hn.out
     generalize (X ++ [(i : Int)]).length = N7 at *
     have HV7 := Lib.hid hV7
     have Hb7 := Lib.hid hb7
     have HT7 := Lib.hid Htab7
     have f7 : w7.frozen? ⟨g, t, none⟩ = false := by simp [World.frozen?, hV7]
     have l7 : g < w7.heap.size := blk_lt hV7
     clear hown8 hg7 hat7 Htab7 hV7 hb7 q2 f2 lG hgr Hlo Hpush Hal Hbal p0
     go_wp2
     go_roundg (ts.length - (j + 1))
     case measure => omega
     case rel =>
      refine ⟨j + 1, V'.set t (.slice A7 N7 c7), by omega, rfl, by go_num, ?_, Lib.hid (Hb7.out.setCell (p := ⟨g, t, none⟩) (by show w.heap.size ≤ g; omega) _), Lib.hid ?_⟩
      ·rw [Hm.out]
       exact Lib.hid (HT7.out.keep (fun k' h1 _ => Below.heap_setCell _ _ _ _ (by show k' ≠ g; omega)))
      ·rw [block_set HV7.out, List.setIfInBounds_toArray]
    ·obtain rfl : j = ts.length := by omega
     have j2 : ¬ ((ts.length : Int) < (ts.length : Int)) := by omega
     have HTn : Hid (Tab wr (g + 1) V' (tabE l.length (edgesTo l (i + 1)))) := Lib.hid (by rw [Hst.out]; have := Htab6.out; rwa [List.take_length] at this)
     clear Htab6
     go_wp2
     go_roundg (l.length - (i + 1))
     case measure => omega
     case rel => exact ⟨i + 1, V', by omega, rfl, by go_num, HTn, Hb6, HblkV6⟩
  ·obtain rfl : i = l.length := by omega
   have i2 : ¬ ((l.length : Int) < (l.length : Int)) := by omega
   have hsl := Htab.out.SLF (b := w.heap.size) Hblk.out (by omega) (by omega) (by rw [tabE_len]; unfold maxLen; omega)
   rw [tabE_len] at hsl
   have Hfin := Lib.hid (HR.out _ _ Hb.out (by rw [← tabE_all]; exact hsl))
   clear hsl
   go_wp2
   exact Hfin.out
end Go.Proofs.YtdanebboiekieaaGreatDoor
