/- code.checker: the body of a function. Names: core.Name and the document's GoodName. code.checker: the head of a function; a name among names. -/
import Derived.Test.YtdanebboiekieaaGreatDoorQ01
import Derived.Test.YtdanebboiekieaaGreatDoorRows
import Derived.IntWalk
import Derived.Outline
import Derived.Deep.LoopGhost
import Derived.Deep.CutBlock
import Derived.Deep.DeepCutAuto
import Derived.Test.YtdanebboiekieaaGreatDoorQ11
import Derived.Test.YtdanebboiekieaaGreatDoorQ02
import Derived.Test.YtdanebboiekieaaGreatDoorQ03
namespace Go.Proofs.YtdanebboiekieaaGreatDoor
open Go.RowKit
set_option linter.unusedSimpArgs false
set_option linter.unusedVariables false

def ends (f : UFun) : List Int := f.blocks.map fun b => endF f.blocks.length f.regs b.end_
def blksF (u : Unt) (f : UFun) : List Int := f.blocks.mapIdx fun k b => blkF u f k b
theorem body_bad {u : Unt} {f : UFun} (h : fst0 (ends f) ≠ 0) : bodyF u f = fst0 (ends f) := by unfold bodyF; exact if_pos h
theorem body_ok {u : Unt} {f : UFun} (h : fst0 (ends f) = 0) : bodyF u f = fst0 (blksF u f) := by unfold bodyF; exact if_neg (fun hn => hn h)
theorem ends_at {f : UFun} {i : Nat} (h : i < f.blocks.length) : (ends f)[i]? = some (endF f.blocks.length f.regs f.blocks[i].end_) := by
 unfold ends
 rw [List.getElem?_map, List.getElem?_eq_getElem h]
 rfl
theorem blksF_at {u : Unt} {f : UFun} {i : Nat} (h : i < f.blocks.length) : (blksF u f)[i]? = some (blkF u f i f.blocks[i]) := by
 unfold blksF
 rw [List.getElem?_mapIdx, List.getElem?_eq_getElem h]
 rfl
theorem ends_to {f : UFun} (h : fst0 (ends f) = 0) : ∀ b ∈ f.blocks, b.end_.to.length ≤ 2 ∧ ∀ t ∈ b.end_.to, 0 ≤ t ∧ t < (f.blocks.length : Int) := by
 intro b hb
 rw [fst0_zero] at h
 have he := h _ (List.mem_map.2 ⟨b, hb, rfl⟩)
 refine ⟨?_, fun t ht => ?_⟩
 ·unfold endF at he
  split at he
  ·simp at he
  split at he
  ·simp at he
  omega
 ·have := (endF_zero he).1 t ht
  omega
theorem ends_len {f : UFun} : (ends f).length = f.blocks.length := by simp [ends]
theorem blksF_len {u : Unt} {f : UFun} : (blksF u f).length = f.blocks.length := by simp [blksF]
theorem aheadT_at {f : UFun} {k : Nat} (h : k < f.blocks.length) : (aheadT f.blocks).getD k [] = aheadL f.blocks k := by
 unfold aheadT
 rw [List.getD_eq_getElem?_getD, List.getElem?_map, List.getElem?_range h]
 rfl
theorem aheadT_len (l : List UBlk) : (aheadT l).length = l.length := by simp [aheadT]
theorem phiG_eq {f : UFun} {k : Nat} (h : k < f.blocks.length) (p : UPhi) : phiG f.regs (aheadT f.blocks) k p = phiF f k p := by
 unfold phiG phiF
 rw [aheadT_at h]
def phisF (f : UFun) (k : Nat) (b : UBlk) : List Int := b.phis.map (phiF f k)
def inssF (u : Unt) (f : UFun) (b : UBlk) : List Int := b.list.map (insF u f.regs)
theorem blkF_eq (u : Unt) (f : UFun) (k : Nat) (b : UBlk) : blkF u f k b = if fst0 (phisF f k b) = 0 then fst0 (inssF u f b) else fst0 (phisF f k b) := by
 unfold blkF phisF inssF
 exact fst0_append _ _
set_option maxRecDepth 100000 in
set_option maxHeartbeats 8000000 in
theorem body_calls (u : Unt) (f : UFun) (gA fA bA : Option Addr) (gn gc fn fc bc : Nat) (w : World) (hW : Ways w) (hrg : 0 ≤ f.regs ∧ f.regs ≤ 100) (h40 : f.blocks.length ≤ 40)
 (hf : rpFun.SL w w.heap.size u.funcs (.slice fA fn fc)) (hb : rpBlk.SL w w.heap.size f.blocks (.slice bA f.blocks.length bc)) (R : Ending → World → Prop) (hR : ∀ w', Below w.heap.size w w' → R (.returned (.int .i64 (bodyF u f))) w') :
 Calls Tryz.prog 125 #[.agg #[.slice gA gn gc, .slice fA fn fc, .string f.name, .int .i64 f.params, .int .i64 f.regs, .slice bA f.blocks.length bc, .slice none 0 0]] w R := by
 have HR := Lib.hid hR
 have Hf := Lib.hid hf
 have Hb := Lib.hid hb
 have HW := Lib.hid hW
 have hI : Hid (I64 f.regs) := Lib.hid (by unfold I64; omega)
 have hlo : -9223372036854775807 ≤ f.regs := by omega
 have hw0 := hW.1
 have hml : f.blocks.length ≤ maxLen := by unfold maxLen; omega
 obtain ⟨W1, hW1⟩ : ∃ W1, W1 = w.alloc (Obj.cells #[.slice gA gn gc, .slice fA fn fc, .string f.name, .int .i64 f.params, .int .i64 f.regs, .slice bA f.blocks.length bc, .slice none 0 0] 171) := ⟨_, rfl⟩
 have HC1 : Hid (W1.heap[w.heap.size]? = some (.cells #[.slice gA gn gc, .slice fA fn fc, .string f.name, .int .i64 f.params, .int .i64 f.regs, .slice bA f.blocks.length bc, .slice none 0 0] 171 (0, 0))) := Lib.hid (by subst hW1; exact heap_alloc_new _ _)
 have Hb1 : Hid (Below w.heap.size w W1) := Lib.hid (by subst hW1; exact bl0)
 have hs1 : W1.heap.size = w.heap.size + 1 := by subst hW1; simp
 have HW1 := Lib.hid hW1.symm
 clear hR hf hb hW hW1
 obtain ⟨c0, c1, c2, c3, c4, c5, c6⟩ := ckr_cells HC1.out
 have lc := blk_lt HC1.out
 go_enter Tryz.func125, Tryz.ntmps125
 go_upto_region 1 with fail
 rw [HW1.out]
 go_wp2
 clear c0 c1 c2 c3 c4 c5 c6
 go_loopg [18] f.blocks.length (fun gh s18 wr => ∃ i : Nat, i ≤ f.blocks.length ∧ gh = f.blocks.length - i ∧ s18 = .int .i64 (i : Int) ∧ Hid (fst0 ((ends f).take i) = 0) ∧ Hid (Below W1.heap.size W1 wr))
 case atStart => exact ⟨0, Nat.zero_le _, rfl, rfl, Lib.hid rfl, Lib.hid (Below.refl _ _)⟩
 case round =>
  obtain ⟨i, hi, rfl, rfl, Hz, Hbr⟩ := hrel
  have hzr := Hbr.out.size
  by_cases hlt : i < f.blocks.length
  ·obtain ⟨b, off, vp, vl, vt, rfl, hb, hp, hl, ht, q0, q1, q2, q3, q4, q5⟩ := Hb.out.blk_at hlt
   obtain ⟨Ap, cp, rfl, _, _, hp⟩ := hp.cases_
   obtain ⟨Al, cl, rfl, _, _, hl⟩ := hl.cases_
   obtain ⟨At, ct, rfl, _, _, ht⟩ := ht.cases_
   have Hbw := Lib.hid (Hb1.out.trans (Hbr.out.mono (by omega)))
   have i1 : (0 : Int) ≤ (i : Int) := Int.natCast_nonneg _
   have i2 : (i : Int) < (f.blocks.length : Int) := by omega
   have lb : b < wr.heap.size := by omega
   have r0 := (Hbw.out.cell (p := ⟨b, off + i * 6, none⟩) hb).trans q0
   have r1 := (Hbw.out.cell (p := ⟨b, off + i * 6 + 1, none⟩) hb).trans q1
   have r2 := (Hbw.out.cell (p := ⟨b, off + i * 6 + 2, none⟩) hb).trans q2
   have r3 := (Hbw.out.cell (p := ⟨b, off + i * 6 + 3, none⟩) hb).trans q3
   have r4 := (Hbw.out.cell (p := ⟨b, off + i * 6 + 4, none⟩) hb).trans q4
   have r5 := (Hbw.out.cell (p := ⟨b, off + i * 6 + 5, none⟩) hb).trans q5
   obtain ⟨m0, m1, m2, m3, m4, m5, m6⟩ := ckr_cells ((Hbr.out.block _ lc).trans HC1.out)
   have lcr : w.heap.size < wr.heap.size := by omega
   have Hyes : Hid (endF f.blocks.length f.regs f.blocks[i].end_ = 0 → fst0 ((ends f).take (i + 1)) = 0) := Lib.hid fun h => fst0_snoc (ends_at hlt) h Hz.out
   have Hno : Hid (endF f.blocks.length f.regs f.blocks[i].end_ ≠ 0 → bodyF u f = endF f.blocks.length f.regs f.blocks[i].end_) := Lib.hid fun h => by
    have e := fst0_at (ends_at hlt) h Hz.out
    rw [body_bad (by rw [e]; exact h), e]
   generalize f.blocks[i] = bk at *
   have HWr := Lib.hid (HW.out.up Hbw.out hw0)
   have Htr := Lib.hid (ht.up Hbw.out Hbw.out.size)
   clear hp hl ht q0 q1 q2 q3 q4 q5
   go_wp2_with fail
   refine end_calls gA fA _ none gn gc fn fc f.blocks.length bc 0 0 f.name f.params f.regs bk.end_ _ hI.out hlo hml _ (HWr.out.up (by exact bl0) (by omega)) (Htr.out.up (by exact bl0) (by simp)) _ (fun w5 hb5 => ?_)
   have Hb5 := Lib.hid (Hbr.out.trans (((by exact bl0 : Below wr.heap.size wr _).trans (hb5.mono (by simp))).mono hzr))
   clear hb5
   generalize endF f.blocks.length f.regs bk.end_ = e at *
   by_cases hv : e = 0
   ·have hvb : (e != 0) = false := by simp [hv]
    have hy := Lib.hid (Hyes.out hv)
    clear Hyes Hno
    go_wp2
    go_roundg (f.blocks.length - (i + 1))
    case measure => omega
    case rel => exact ⟨i + 1, by omega, rfl, by go_num, hy, Hb5⟩
   ·have hvb : (e != 0) = true := by simp [hv]
    have hy := Lib.hid (Hno.out hv)
    have Hfin := Lib.hid (HR.out _ (Hb1.out.trans (Hb5.out.mono Hb1.out.size)))
    rw [hy.out] at Hfin
    clear Hyes Hno
    go_wp2
    exact Hfin.out
  ·obtain rfl : i = f.blocks.length := by omega
   have i2 : ¬ ((f.blocks.length : Int) < (f.blocks.length : Int)) := by omega
   obtain ⟨m0, m1, m2, m3, m4, m5, m6⟩ := ckr_cells ((Hbr.out.block _ lc).trans HC1.out)
   have lcr : w.heap.size < wr.heap.size := by omega
   have hz0 : fst0 (ends f) = 0 := by have := Hz.out; rwa [← ends_len (f := f), List.take_length] at this
   have hto := ends_to hz0
   have HF : Hid (∀ w', Below w.heap.size w w' → R (.returned (.int .i64 (fst0 (blksF u f)))) w') := Lib.hid (by rw [← body_ok hz0]; exact HR.out)
   have Hbw := Lib.hid (Hb1.out.trans (Hbr.out.mono (by omega)))
   have HCr := Lib.hid ((Hbr.out.block _ lc).trans HC1.out)
   clear HR Hz hz0
   go_wp2_with fail
   refine ahead_calls f.name f.params f.regs f.blocks _ _ (Hb.out.up Hbw.out Hbw.out.size) h40 hto _ (fun w2 v2 hb2 hs2 => ?_)
   obtain ⟨A2, c2, rfl, _, _, hs2⟩ := hs2.cases_
   have hC2 := (hb2.block _ lcr).trans HCr.out
   have hs22 := hb2.size
   obtain ⟨W3, hW3⟩ : ∃ W3, W3 = w2.setCell ⟨w.heap.size, 6, none⟩ (.slice A2 (aheadT f.blocks).length c2) := ⟨_, rfl⟩
   have hb23 : Below w.heap.size w W3 := by subst hW3; exact (Hbw.out.trans (hb2.mono Hbw.out.size)).setCell (p := ⟨w.heap.size, 6, none⟩) (Nat.le_refl _) _
   have hC3 : W3.heap[w.heap.size]? = some (.cells #[.slice gA gn gc, .slice fA fn fc, .string f.name, .int .i64 f.params, .int .i64 f.regs, .slice bA f.blocks.length bc, .slice A2 (aheadT f.blocks).length c2] 171 (0, 0)) := by
    subst hW3
    rw [block_set hC2]
    rfl
   have hs3 : W3.heap.size = w2.heap.size := by subst hW3; simp [World.setCell]
   have hah3 : rpInt.slice.SL W3 W3.heap.size (aheadT f.blocks) (.slice A2 (aheadT f.blocks).length c2) := by
    rw [hs3]
    subst hW3
    exact (hs2.setCell ⟨w.heap.size, 6, none⟩ (by show w.heap.size < wr.heap.size; exact lcr) _).SL
   have HB3 := Lib.hid hb23
   have HC3 := Lib.hid hC3
   have Hah3 := Lib.hid hah3
   have HW3 := Lib.hid hW3.symm
   have k6 : w2.cell? ⟨w.heap.size, 6, none⟩ = some (.slice none 0 0) := by rw [blk_cells hC2]; rfl
   have f6 : w2.frozen? ⟨w.heap.size, 6, none⟩ = false := by simp [World.frozen?, hC2]
   have l2 : w.heap.size < w2.heap.size := by omega
   obtain ⟨n0, n1, n2, n3, n4, n5, n6⟩ := ckr_cells hC3
   have l3 : w.heap.size < W3.heap.size := by omega
   clear hb2 hs2 hC2 hW3 hb23 hC3 hah3 m0 m1 m2 m3 m4 m5 m6 Hbr HCr Hbw
   go_upto_region 9 with fail
   rw [HW3.out]
   go_wp2
   clear n0 n1 n2 n3 n4 n5 n6 k6 f6
   go_loopg [38] f.blocks.length (fun gh s38 wx => ∃ i : Nat, i ≤ f.blocks.length ∧ gh = f.blocks.length - i ∧ s38 = .int .i64 (i : Int) ∧ Hid (fst0 ((blksF u f).take i) = 0) ∧ Hid (Below W3.heap.size W3 wx))
   case atStart => exact ⟨0, Nat.zero_le _, rfl, rfl, Lib.hid rfl, Lib.hid (Below.refl _ _)⟩
   case round =>
    obtain ⟨i, hi, rfl, rfl, Hz, Hbx⟩ := hrel
    have hzx := Hbx.out.size
    by_cases hlt : i < f.blocks.length
    ·obtain ⟨b, off, vp, vl, vt, rfl, hb, hp, hl, ht, q0, q1, q2, q3, q4, q5⟩ := Hb.out.blk_at hlt
     obtain ⟨Ap, cp, rfl, _, _, hp⟩ := hp.cases_
     obtain ⟨Al, cl, rfl, _, _, hl⟩ := hl.cases_
     obtain ⟨At, ct, rfl, _, _, ht⟩ := ht.cases_
     have Hbw := Lib.hid (HB3.out.trans (Hbx.out.mono HB3.out.size))
     have i1 : (0 : Int) ≤ (i : Int) := Int.natCast_nonneg _
     have i2 : (i : Int) < (f.blocks.length : Int) := by omega
     have lb : b < wr.heap.size := by have := Hbw.out.size; omega
     have r0 := (Hbw.out.cell (p := ⟨b, off + i * 6, none⟩) hb).trans q0
     have r1 := (Hbw.out.cell (p := ⟨b, off + i * 6 + 1, none⟩) hb).trans q1
     have r2 := (Hbw.out.cell (p := ⟨b, off + i * 6 + 2, none⟩) hb).trans q2
     have r3 := (Hbw.out.cell (p := ⟨b, off + i * 6 + 3, none⟩) hb).trans q3
     have r4 := (Hbw.out.cell (p := ⟨b, off + i * 6 + 4, none⟩) hb).trans q4
     have r5 := (Hbw.out.cell (p := ⟨b, off + i * 6 + 5, none⟩) hb).trans q5
     have HYes : Hid (blkF u f i f.blocks[i] = 0 → fst0 ((blksF u f).take (i + 1)) = 0) := Lib.hid fun h => fst0_snoc (blksF_at hlt) h Hz.out
     have HNo : Hid (blkF u f i f.blocks[i] ≠ 0 → fst0 (blksF u f) = blkF u f i f.blocks[i]) := Lib.hid fun h => fst0_at (blksF_at hlt) h Hz.out
     generalize f.blocks[i] = bk at *
     obtain ⟨gX, hgX⟩ : ∃ gX, gX = wr.heap.size := ⟨_, rfl⟩
     obtain ⟨W4, hW4⟩ : ∃ W4, W4 = wr.alloc (Obj.cells #[.slice Ap bk.phis.length cp, .slice Al bk.list.length cl, .int .i64 bk.end_.kind, .bool bk.end_.on.reg, .int .i64 bk.end_.on.n, .slice At bk.end_.to.length ct] 68) := ⟨_, rfl⟩
     have hbw : Below wr.heap.size wr W4 := by subst hW4; exact bl0
     have HX4 : Hid (W4.heap[gX]? = some (.cells #[.slice Ap bk.phis.length cp, .slice Al bk.list.length cl, .int .i64 bk.end_.kind, .bool bk.end_.on.reg, .int .i64 bk.end_.on.n, .slice At bk.end_.to.length ct] 68 (0, 0))) := Lib.hid (by subst hW4 hgX; exact heap_alloc_new _ _)
     have HB4 := Lib.hid (Hbw.out.trans (hbw.mono Hbw.out.size))
     have HB34 := Lib.hid hbw
     have HC4 := Lib.hid ((hbw.block _ (by omega)).trans ((Hbx.out.block _ l3).trans HC3.out))
     have Hah4 := Lib.hid ((Hah3.out.up Hbx.out Hbx.out.size).up hbw hbw.size)
     have Hp4 := Lib.hid (hp.up HB4.out HB4.out.size)
     have Hl4 := Lib.hid (hl.up HB4.out HB4.out.size)
     have HW4 := Lib.hid hW4.symm
     obtain ⟨x0, x1, x2, x3, x4, x5⟩ := blk6_cells HX4.out
     have lx := blk_lt HX4.out
     have hs4 := hbw.size
     clear hp hl ht q0 q1 q2 q3 q4 q5 hbw hW4
     go_upto_region 12 with fail
     rw [HW4.out]
     rw [← hgX]
     clear hgX
     go_wp2
     clear x0 x1 x2 x3 x4 x5 r0 r1 r2 r3 r4 r5 lx
     go_loopg [46] bk.phis.length (fun gh s46 wy => ∃ j : Nat, j ≤ bk.phis.length ∧ gh = bk.phis.length - j ∧ s46 = .int .i64 (j : Int) ∧ Hid (fst0 ((phisF f i bk).take j) = 0) ∧ Hid (Below W4.heap.size W4 wy))
     case atStart => exact ⟨0, Nat.zero_le _, rfl, rfl, Lib.hid rfl, Lib.hid (Below.refl _ _)⟩
     case round =>
      obtain ⟨j, hj, rfl, rfl, Hzj, Hby⟩ := hrel
      have hzy := Hby.out.size
      by_cases hlj : j < bk.phis.length
      ·obtain ⟨ba, oa, va, rfl, hba, hav, a0, a1⟩ := Hp4.out.phi_at hlj
       obtain ⟨Aa, ca, rfl, _, _, hav⟩ := hav.cases_
       have j1 : (0 : Int) ≤ (j : Int) := Int.natCast_nonneg _
       have j2 : (j : Int) < (bk.phis.length : Int) := by omega
       have s0 := (Hby.out.cell (p := ⟨ba, oa + j * 2, none⟩) hba).trans a0
       have s1 := (Hby.out.cell (p := ⟨ba, oa + j * 2 + 1, none⟩) hba).trans a1
       have lba : ba < wr.heap.size := by omega
       obtain ⟨m0, m1, m2, m3, m4, m5, m6⟩ := ckr_cells ((Hby.out.block _ (blk_lt HC4.out)).trans HC4.out)
       have lcr : w.heap.size < wr.heap.size := by have := blk_lt HC4.out; omega
       have Hyes : Hid (phiF f i bk.phis[j] = 0 → fst0 ((phisF f i bk).take (j + 1)) = 0) := Lib.hid fun h => fst0_snoc (by unfold phisF; rw [List.getElem?_map, List.getElem?_eq_getElem hlj]; rfl) h Hzj.out
       have Hno : Hid (phiF f i bk.phis[j] ≠ 0 → fst0 (phisF f i bk) = phiF f i bk.phis[j]) := Lib.hid fun h => fst0_at (by unfold phisF; rw [List.getElem?_map, List.getElem?_eq_getElem hlj]; rfl) h Hzj.out
       have Hbz := Lib.hid (HB4.out.trans (Hby.out.mono HB4.out.size))
       have Hav5 := Lib.hid ((show Rp.SL rpVal W4 W4.heap.size _ _ from hav).up Hby.out Hby.out.size)
       have Hah5 := Lib.hid (Hah4.out.up Hby.out Hby.out.size)
       generalize bk.phis[j] = a at *
       clear hav a0 a1
       go_wp2_with fail
       refine phi_calls gA fA _ _ gn gc fn fc f.blocks.length bc _ _ f.name f.params f.regs (aheadT f.blocks) i a _ hI.out hlo _ (by rw [aheadT_len]; exact hlt) (Hah5.out.up (by exact bl0) (by simp)) (Hav5.out.up (by exact bl0) (by simp)) _ (fun w7 hb7 => ?_)
       rw [phiG_eq hlt]
       have Hb7 := Lib.hid (Hby.out.trans (((by exact bl0 : Below wr.heap.size wr _).trans (hb7.mono (by simp))).mono hzy))
       clear hb7
       generalize phiF f i a = e at *
       by_cases hv : e = 0
       ·have hvb : (e != 0) = false := by simp [hv]
        have hy := Lib.hid (Hyes.out hv)
        clear Hyes Hno
        go_wp2
        go_roundg (bk.phis.length - (j + 1))
        case measure => omega
        case rel => exact ⟨j + 1, by omega, rfl, by go_num, hy, Hb7⟩
       ·have hvb : (e != 0) = true := by simp [hv]
        have hy := Lib.hid (Hno.out hv)
        have Hfin := Lib.hid (HF.out _ (HB4.out.trans (Hb7.out.mono HB4.out.size)))
        rw [show fst0 (blksF u f) = e from by
         have e1 : blkF u f i bk = e := by rw [blkF_eq, if_neg (by rw [hy.out]; exact hv)]; exact hy.out
         rw [HNo.out (by rw [e1]; exact hv), e1]] at Hfin
        clear Hyes Hno
        go_wp2
        exact Hfin.out
      ·obtain rfl : j = bk.phis.length := by omega
       have j2 : ¬ ((bk.phis.length : Int) < (bk.phis.length : Int)) := by omega
       have Hph : Hid (fst0 (phisF f i bk) = 0) := Lib.hid (by have := Hzj.out; rwa [show bk.phis.length = (phisF f i bk).length from by simp [phisF], List.take_length] at this)
       have HbyP := Hby
       obtain ⟨x0, x1, x2, x3, x4, x5⟩ := blk6_cells ((Hby.out.block _ (blk_lt HX4.out)).trans HX4.out)
       have lx : gX < wr.heap.size := by have := blk_lt HX4.out; omega
       clear Hzj
       go_wp2
       go_loopg [61] bk.list.length (fun gh s61 wy => ∃ j : Nat, j ≤ bk.list.length ∧ gh = bk.list.length - j ∧ s61 = .int .i64 (j : Int) ∧ Hid (fst0 ((inssF u f bk).take j) = 0) ∧ Hid (Below W4.heap.size W4 wy))
       case atStart => exact ⟨0, Nat.zero_le _, rfl, rfl, Lib.hid rfl, HbyP⟩
       case round =>
        obtain ⟨j, hj, rfl, rfl, Hzj, Hby⟩ := hrel
        have hzy := Hby.out.size
        by_cases hlj : j < bk.list.length
        ·obtain ⟨ba, oa, va, rfl, hba, hav, a0, a1, a2, a3, a4, a5, a6, a7⟩ := Hl4.out.ins_at hlj
         obtain ⟨Aa, ca, rfl, _, _, hav⟩ := hav.cases_
         have j1 : (0 : Int) ≤ (j : Int) := Int.natCast_nonneg _
         have j2 : (j : Int) < (bk.list.length : Int) := by omega
         have s0 := (Hby.out.cell (p := ⟨ba, oa + j * 8, none⟩) hba).trans a0
         have s1 := (Hby.out.cell (p := ⟨ba, oa + j * 8 + 1, none⟩) hba).trans a1
         have s2 := (Hby.out.cell (p := ⟨ba, oa + j * 8 + 2, none⟩) hba).trans a2
         have s3 := (Hby.out.cell (p := ⟨ba, oa + j * 8 + 3, none⟩) hba).trans a3
         have s4 := (Hby.out.cell (p := ⟨ba, oa + j * 8 + 4, none⟩) hba).trans a4
         have s5 := (Hby.out.cell (p := ⟨ba, oa + j * 8 + 5, none⟩) hba).trans a5
         have s6 := (Hby.out.cell (p := ⟨ba, oa + j * 8 + 6, none⟩) hba).trans a6
         have s7 := (Hby.out.cell (p := ⟨ba, oa + j * 8 + 7, none⟩) hba).trans a7
         have lba : ba < wr.heap.size := by omega
         obtain ⟨m0, m1, m2, m3, m4, m5, m6⟩ := ckr_cells ((Hby.out.block _ (blk_lt HC4.out)).trans HC4.out)
         have lcr : w.heap.size < wr.heap.size := by have := blk_lt HC4.out; omega
         have Hyes : Hid (insF u f.regs bk.list[j] = 0 → fst0 ((inssF u f bk).take (j + 1)) = 0) := Lib.hid fun h => fst0_snoc (by unfold inssF; rw [List.getElem?_map, List.getElem?_eq_getElem hlj]; rfl) h Hzj.out
         have Hno : Hid (insF u f.regs bk.list[j] ≠ 0 → fst0 (inssF u f bk) = insF u f.regs bk.list[j]) := Lib.hid fun h => fst0_at (by unfold inssF; rw [List.getElem?_map, List.getElem?_eq_getElem hlj]; rfl) h Hzj.out
         have Hbz := Lib.hid (HB4.out.trans (Hby.out.mono HB4.out.size))
         have Hav5 := Lib.hid ((show Rp.SL rpVal W4 W4.heap.size _ _ from hav).up Hby.out Hby.out.size)
         have Hf5 := Lib.hid (Hf.out.up Hbz.out Hbz.out.size)
         generalize bk.list[j] = a at *
         clear hav a0 a1 a2 a3 a4 a5 a6 a7
         go_wp2_with fail
         refine ins_calls gA fA _ _ gn gc _ fc f.blocks.length bc _ _ f.name f.params f.regs u a _ hI.out hlo _ (Hf5.out.up (by exact bl0) (by simp)) (Hav5.out.up (by exact bl0) (by simp)) _ (fun w7 hb7 => ?_)
         have Hb7 := Lib.hid (Hby.out.trans (((by exact bl0 : Below wr.heap.size wr _).trans (hb7.mono (by simp))).mono hzy))
         clear hb7
         generalize insF u f.regs a = e at *
         by_cases hv : e = 0
         ·have hvb : (e != 0) = false := by simp [hv]
          have hy := Lib.hid (Hyes.out hv)
          clear Hyes Hno
          go_wp2
          go_roundg (bk.list.length - (j + 1))
          case measure => omega
          case rel => exact ⟨j + 1, by omega, rfl, by go_num, hy, Hb7⟩
         ·have hvb : (e != 0) = true := by simp [hv]
          have hy := Lib.hid (Hno.out hv)
          have Hfin := Lib.hid (HF.out _ (HB4.out.trans (Hb7.out.mono HB4.out.size)))
          rw [show fst0 (blksF u f) = e from by
           have e1 : blkF u f i bk = e := by rw [blkF_eq, if_pos Hph.out]; exact hy.out
           rw [HNo.out (by rw [e1]; exact hv), e1]] at Hfin
          clear Hyes Hno
          go_wp2
          exact Hfin.out
        ·obtain rfl : j = bk.list.length := by omega
         have j2 : ¬ ((bk.list.length : Int) < (bk.list.length : Int)) := by omega
         have Hn : Hid (fst0 ((blksF u f).take (i + 1)) = 0) := Lib.hid (HYes.out (by
        rw [blkF_eq, if_pos Hph.out]
        have := Hzj.out
        rwa [show bk.list.length = (inssF u f bk).length from by simp [inssF], List.take_length] at this))
         have Hb8 := Lib.hid (Hbx.out.trans (HB34.out.trans (Hby.out.mono HB34.out.size) |>.mono (by omega)))
         go_wp2
         go_roundg (f.blocks.length - (i + 1))
         case measure => omega
         case rel => exact ⟨i + 1, by omega, rfl, by go_num, Hn, Hb8⟩
    ·obtain rfl : i = f.blocks.length := by omega
     have i2 : ¬ ((f.blocks.length : Int) < (f.blocks.length : Int)) := by omega
     have Hfin := Lib.hid (HF.out _ (HB3.out.trans (Hbx.out.mono HB3.out.size)))
     rw [show fst0 (blksF u f) = 0 from by have := Hz.out; rwa [← blksF_len (u := u) (f := f), List.take_length] at this] at Hfin
     go_wp2
     exact Hfin.out
end Go.Proofs.YtdanebboiekieaaGreatDoor
namespace Go.Proofs.YtdanebboiekieaaGreatDoor
open Go.RowKit
set_option linter.unusedSimpArgs false
set_option linter.unusedVariables false

theorem nameFrom_step {s : ByteArray} {k : Nat} (h : k < s.size) : nameFrom s (s.size - k) k = (letterOk k s[k] && nameFrom s (s.size - (k + 1)) (k + 1)) := by
 rw [show s.size - k = (s.size - (k + 1)) + 1 from by omega, nameFrom, byte_get h]

set_option maxRecDepth 100000 in
set_option maxHeartbeats 1000000 in
theorem Name_calls (s : ByteArray) (w : World) (R : Ending → World → Prop) (hR : R (.returned (.bool (goodName s))) w) :
 Calls Tryz.prog 122 #[.string s] w R := by
 by_cases h1 : s.size < 1
 ·have HR : Hid (R (.returned (.bool false)) w) := by
   rw [show goodName s = false from by rw [goodName, Bool.and_eq_false_iff]; left; simp; omega] at hR
   exact Lib.hid hR
  clear hR
  have h1i : (s.size : Int) < 1 := by omega
  clear h1
  go_enter Tryz.func122, Tryz.ntmps122
  go_wp2
  exact HR.out
 by_cases h2 : 12 < s.size
 ·have HR : Hid (R (.returned (.bool false)) w) := by
   rw [show goodName s = false from by rw [goodName, Bool.and_eq_false_iff]; left; simp; omega] at hR
   exact Lib.hid hR
  clear hR
  have h1i : ¬ (s.size : Int) < 1 := by omega
  have h2i : (12 : Int) < (s.size : Int) := by omega
  clear h1 h2
  go_enter Tryz.func122, Tryz.ntmps122
  go_wp2
  exact HR.out
 have HR : Hid (R (.returned (.bool (nameFrom s s.size 0))) w) := by
  rw [show goodName s = nameFrom s s.size 0 from by rw [goodName, show decide (1 ≤ s.size ∧ s.size ≤ 12) = true from by simp; omega, Bool.true_and]] at hR
  exact Lib.hid hR
 clear hR
 have h1i : ¬ (s.size : Int) < 1 := by omega
 have h2i : ¬ (12 : Int) < (s.size : Int) := by omega
 go_enter Tryz.func122, Tryz.ntmps122
 go_wp2
 go_loopg [3, 4, 15] s.size (fun g j c i wr => ∃ k : Nat, k ≤ s.size ∧ g = s.size - k ∧ i = .int .i64 k ∧ nameFrom s (s.size - k) k = nameFrom s s.size 0 ∧ wr = w)
 case atStart => exact ⟨0, Nat.zero_le _, rfl, rfl, rfl, rfl⟩
 case round =>
  obtain ⟨k, hk, rfl, rfl, ht, rfl⟩ := hrel
  have Ht := Lib.hid ht
  clear ht
  by_cases hlt : k < s.size
  ·have i1 : (0 : Int) ≤ (k : Int) := Int.natCast_nonneg _
   have i2 : (k : Int) < (s.size : Int) := by omega
   have Hs := Lib.hid (nameFrom_step hlt)
   have hlo : Hid (letterOk k s[k] = decide ((97 ≤ s[k].toNat ∧ s[k].toNat ≤ 122) ∨ (65 ≤ s[k].toNat ∧ s[k].toNat ≤ 90) ∨ s[k].toNat = 95 ∨ (0 < k ∧ 48 ≤ s[k].toNat ∧ s[k].toNat ≤ 57))) := Lib.hid rfl
   have hyes : Hid (letterOk k s[k] = true → nameFrom s (s.size - (k + 1)) (k + 1) = nameFrom s s.size 0) := Lib.hid fun h => by rw [← Ht.out, Hs.out, h, Bool.true_and]
   have hno : Hid (letterOk k s[k] = false → R (.returned (.bool false)) wr) := Lib.hid fun h => by
    have := HR.out
    rw [← Ht.out, Hs.out, h, Bool.false_and] at this
    exact this
   clear HR
   go_wp2
   all_goals first
   | (refine hno.out ?_
      try simp only [Bool.not_eq_true', Bool.not_eq_false', decide_eq_true_eq, decide_eq_false_iff_not, beq_iff_eq, beq_eq_false_iff_ne, ne_eq] at *
      rw [hlo.out]
      exact decide_eq_false (by omega))
   | (go_roundg (s.size - (k + 1))
      case measure => omega
      case rel =>
       refine ⟨k + 1, hlt, rfl, by go_num, hyes.out ?_, rfl⟩
       try simp only [Bool.not_eq_true', Bool.not_eq_false', decide_eq_true_eq, decide_eq_false_iff_not, beq_iff_eq, beq_eq_false_iff_ne, ne_eq] at *
       rw [hlo.out]
       exact decide_eq_true (by omega))
  ·obtain rfl : k = s.size := by omega
   rw [Nat.sub_self, nameFrom] at Ht
   rw [← Ht.out] at HR
   go_wp2
   exact HR.out
end Go.Proofs.YtdanebboiekieaaGreatDoor
namespace Go.Proofs.YtdanebboiekieaaGreatDoor
open Go.RowKit
set_option linter.unusedSimpArgs false
set_option linter.unusedVariables false

def strCells (s : ByteArray) : List Value := [.string s]
theorem Rp.SL.str_at {w : World} {B : Nat} {xs : List ByteArray} {A : Option Addr} {n c k : Nat} (h : rpStr.SL w B xs (.slice A n c)) (hk : k < xs.length) : ∃ b off, A = some ⟨b, off, none⟩ ∧ b < B ∧ w.cell? ⟨b, off + k, none⟩ = some (.string xs[k]) := by
 obtain ⟨b, off, cs, hA, hb, hr, hcs⟩ := h.at_ (List.getElem?_eq_getElem hk)
 have : cs = [.string xs[k]] := hr
 subst this
 refine ⟨b, off, hA, hb, ?_⟩
 have := hcs 0 _ rfl
 simpa [rpStr] using this
theorem SLstr_own {w : World} {B base : Nat} {e : TypeId} {v : Value} {xs : List ByteArray} (h : w.ownsRow base e 1 v xs.length (xs.flatMap strCells)) (hB : w.heap.size ≤ B) : rpStr.SL w B xs v :=
 Rp.SL.of_own (r := rpStr) (f := strCells) (fun _ _ _ => rfl) (fun _ => rfl) h hB
theorem info_string : (Tryz.prog.info? 9).map (fun i => (i.zero, i.size, i.bytes)) = some (some (.string ByteArray.empty), 1, 16) := by kernel_rfl
def inN (l : List ByteArray) (nm : ByteArray) : Bool := l.any fun o => decide (o = nm)
set_option maxHeartbeats 1000000 in
theorem idxStr_calls (l : List ByteArray) (v : Value) (nm : ByteArray) (w : World) (h : rpStr.SL w w.heap.size l v) (R : Ending → World → Prop)
 (hR : ∀ r : Int, decide (0 ≤ r) = inN l nm → R (.returned (.int .i64 r)) w) : Calls Tryz.prog 134 #[v, .string nm] w R := by
 obtain ⟨A, c, rfl, hm, hcap, h⟩ := h.cases_
 have HR := Lib.hid hR
 have H := Lib.hid h
 clear hR h
 go_enter Tryz.func134, Tryz.ntmps134
 go_wp2
 go_loopg [5, 8] l.length (fun g s5 i wr => ∃ k : Nat, k ≤ l.length ∧ g = l.length - k ∧ i = .int .i64 k ∧ inN (l.take k) nm = false ∧ wr = w)
 case atStart => exact ⟨0, Nat.zero_le _, rfl, rfl, rfl, rfl⟩
 case round =>
  obtain ⟨k, hk, rfl, rfl, ht, rfl⟩ := hrel
  rename World => w
  have Ht := Lib.hid ht
  have i1 : (0 : Int) ≤ (k : Int) := Int.natCast_nonneg _
  clear ht
  by_cases hlt : k < l.length
  ·obtain ⟨b, off, rfl, hb, q0⟩ := H.out.str_at hlt
   have i2 : (k : Int) < (l.length : Int) := by omega
   have hne := name_eq nm l[k]
   have Hst : Hid (inN (l.take (k + 1)) nm = decide (l[k] = nm)) := Lib.hid (by
    have e := Ht.out
    unfold inN at e ⊢
    rw [any_take_step _ hlt, e, Bool.false_or])
   have Hof : Hid (l[k] = nm → inN l nm = true) := Lib.hid fun h => List.any_eq_true.2 ⟨_, List.getElem_mem hlt, by simpa using h⟩
   generalize l[k] = s at *
   by_cases hx : s = nm
   ·have Hfin := Lib.hid (HR.out (k : Int) (by rw [Hof.out hx]; exact decide_eq_true i1))
    subst hx
    rw [decide_eq_true rfl] at hne
    clear HR Hst Hof
    go_wp2
    exact Hfin.out
   ·rw [decide_eq_false (fun e => hx e.symm)] at hne
    rw [decide_eq_false hx] at Hst
    clear hx Hof
    go_wp2
    go_roundg (l.length - (k + 1))
    case measure => omega
    case rel => exact ⟨k + 1, hlt, rfl, by go_num, Hst.out, rfl⟩
  ·obtain rfl : k = l.length := by omega
   rw [List.take_length] at Ht
   have Hfin := Lib.hid (HR.out (-1) (by rw [Ht.out]; rfl))
   clear HR
   go_wp2
   exact Hfin.out
set_option maxHeartbeats 1000000 in
theorem contStr_calls (l : List ByteArray) (v : Value) (nm : ByteArray) (w : World) (h : rpStr.SL w w.heap.size l v) (R : Ending → World → Prop)
 (hR : R (.returned (.bool (inN l nm))) w) : Calls Tryz.prog 123 #[v, .string nm] w R := by
 have HR := Lib.hid hR
 clear hR
 go_enter Tryz.func123, Tryz.ntmps123
 go_wp2_with fail
 refine idxStr_calls l _ nm _ h _ (fun r hr => ?_)
 rw [← hr] at HR
 clear h hr
 go_wp2
 exact HR.out
theorem manyW_step {l : List UBlk} {k : Nat} (h : k < l.length) : manyW l (k + 1) = wrap64 (manyW l k + wrap64 ((l[k].phis.length : Int) + (l[k].list.length : Int))) := by
 rw [manyW, List.getElem?_eq_getElem h]
set_option maxRecDepth 100000 in
set_option maxHeartbeats 8000000 in
theorem head_calls (f : UFun) (names : List ByteArray) (vn : Value) (gA fA bA : Option Addr) (gn gc fn fc bc : Nat) (w : World)
 (hn : rpStr.SL w w.heap.size names vn) (hb : rpBlk.SL w w.heap.size f.blocks (.slice bA f.blocks.length bc)) (R : Ending → World → Prop) (hR : ∀ w', Below w.heap.size w w' → R (.returned (.int .i64 (headF (inN names) f))) w') :
 Calls Tryz.prog 124 #[.agg #[.slice gA gn gc, .slice fA fn fc, .string f.name, .int .i64 f.params, .int .i64 f.regs, .slice bA f.blocks.length bc, .slice none 0 0], vn] w R := by
 obtain ⟨An, cn, rfl, _, _, hn⟩ := hn.cases_
 have HR := Lib.hid hR
 have Hn := Lib.hid hn
 have Hb := Lib.hid hb
 have hbm := hb.max
 unfold maxLen at hbm
 obtain ⟨W1, hW1⟩ : ∃ W1, W1 = w.alloc (Obj.cells #[.slice gA gn gc, .slice fA fn fc, .string f.name, .int .i64 f.params, .int .i64 f.regs, .slice bA f.blocks.length bc, .slice none 0 0] 171) := ⟨_, rfl⟩
 have HC1 : Hid (W1.heap[w.heap.size]? = some (.cells #[.slice gA gn gc, .slice fA fn fc, .string f.name, .int .i64 f.params, .int .i64 f.regs, .slice bA f.blocks.length bc, .slice none 0 0] 171 (0, 0))) := Lib.hid (by subst hW1; exact heap_alloc_new _ _)
 have Hb1 : Hid (Below w.heap.size w W1) := Lib.hid (by subst hW1; exact bl0)
 have hs1 : W1.heap.size = w.heap.size + 1 := by subst hW1; simp
 have HW1 := Lib.hid hW1.symm
 clear hR hn hb hW1
 obtain ⟨c0, c1, c2, c3, c4, c5, c6⟩ := ckr_cells HC1.out
 have lc := blk_lt HC1.out
 go_enter Tryz.func124, Tryz.ntmps124
 go_upto_region 2 with fail
 rw [HW1.out]
 go_wp2
 clear c0 c1 c2 c3 c4 c5 c6
 go_loopg [5, 12] f.blocks.length (fun gh s5 s12 wr => ∃ i : Nat, i ≤ f.blocks.length ∧ gh = f.blocks.length - i ∧ s12 = .int .i64 (i : Int) ∧ s5 = .int .i64 (manyW f.blocks i) ∧ Hid (Below W1.heap.size W1 wr))
 case atStart => exact ⟨0, Nat.zero_le _, rfl, rfl, rfl, Lib.hid (Below.refl _ _)⟩
 case round =>
  obtain ⟨i, hi, rfl, rfl, rfl, Hbr⟩ := hrel
  have hzr := Hbr.out.size
  by_cases hlt : i < f.blocks.length
  ·obtain ⟨b, off, vp, vl, vt, rfl, hb, hp, hl, ht, q0, q1, q2, q3, q4, q5⟩ := Hb.out.blk_at hlt
   obtain ⟨Ap, cp, rfl, hpm, _, hp⟩ := hp.cases_
   obtain ⟨Al, cl, rfl, hlm, _, hl⟩ := hl.cases_
   obtain ⟨At, ct, rfl, _, _, ht⟩ := ht.cases_
   have Hbw := Lib.hid (Hb1.out.trans (Hbr.out.mono (by omega)))
   have i1 : (0 : Int) ≤ (i : Int) := Int.natCast_nonneg _
   have i2 : (i : Int) < (f.blocks.length : Int) := by omega
   have lb : b < wr.heap.size := by omega
   have r0 := (Hbw.out.cell (p := ⟨b, off + i * 6, none⟩) hb).trans q0
   have r1 := (Hbw.out.cell (p := ⟨b, off + i * 6 + 1, none⟩) hb).trans q1
   have r2 := (Hbw.out.cell (p := ⟨b, off + i * 6 + 2, none⟩) hb).trans q2
   have r3 := (Hbw.out.cell (p := ⟨b, off + i * 6 + 3, none⟩) hb).trans q3
   have r4 := (Hbw.out.cell (p := ⟨b, off + i * 6 + 4, none⟩) hb).trans q4
   have r5 := (Hbw.out.cell (p := ⟨b, off + i * 6 + 5, none⟩) hb).trans q5
   have Hst := Lib.hid (manyW_step hlt)
   have Hb5 := Lib.hid (Hbr.out.alloc hzr (Obj.cells #[.slice Ap f.blocks[i].phis.length cp, .slice Al f.blocks[i].list.length cl, .int .i64 f.blocks[i].end_.kind, .bool f.blocks[i].end_.on.reg, .int .i64 f.blocks[i].end_.on.n, .slice At f.blocks[i].end_.to.length ct] 68))
   generalize f.blocks[i] = bk at *
   generalize manyW f.blocks i = m at *
   clear hp hl ht q0 q1 q2 q3 q4 q5
   go_wp2
   go_roundg (f.blocks.length - (i + 1))
   case measure => omega
   case rel => exact ⟨i + 1, by omega, rfl, by go_num, by rw [Hst.out], Hb5⟩
  ·obtain rfl : i = f.blocks.length := by omega
   have i2 : ¬ ((f.blocks.length : Int) < (f.blocks.length : Int)) := by omega
   obtain ⟨c0, c1, c2, c3, c4, c5, c6⟩ := ckr_cells ((Hbr.out.block _ lc).trans HC1.out)
   have lcr : w.heap.size < wr.heap.size := by omega
   have Hbw := Lib.hid (Hb1.out.trans (Hbr.out.mono (by omega)))
   have Hnr := Lib.hid (Hn.out.up Hbw.out Hbw.out.size)
   have HR2 := Lib.hid (HR.out wr Hbw.out)
   clear HR Hbr Hb
   by_cases h1 : goodName f.name = false
   ·rw [show headF (inN names) f = 12 from by unfold headF; rw [if_pos h1]] at HR2
    go_wp2_with fail
    refine Name_calls _ _ _ ?_
    rw [h1]
    go_wp2
    exact HR2.out
   have h1' : goodName f.name = true := by simpa using h1
   by_cases h2 : inN names f.name = true
   ·rw [show headF (inN names) f = 7 from by unfold headF; rw [if_neg h1, if_pos h2]] at HR2
    clear h1
    go_wp2_with fail
    refine Name_calls _ _ _ ?_
    rw [h1']
    go_wp2_with fail
    refine contStr_calls names _ _ _ Hnr.out _ ?_
    rw [h2]
    go_wp2
    exact HR2.out
   have h2' : inN names f.name = false := by simpa using h2
   generalize hm : manyW f.blocks f.blocks.length = m at *
   by_cases h3 : ¬ (0 ≤ f.params ∧ f.params ≤ 6)
   ·rw [show headF (inN names) f = 3 from by unfold headF; rw [if_neg h1, if_neg h2, if_pos (.inl h3)]] at HR2
    have hd : decide (0 ≤ f.params ∧ f.params ≤ 6) = false := by simpa using h3
    clear h1 h2 h3 hm
    go_wp2_with fail
    refine Name_calls _ _ _ ?_
    rw [h1']
    go_wp2_with fail
    refine contStr_calls names _ _ _ Hnr.out _ ?_
    rw [h2']
    go_wp2_with fail
    refine Within_calls f.params 0 6 _ _ ?_
    rw [hd]
    go_wp2
    exact HR2.out
   have hd3 : decide (0 ≤ f.params ∧ f.params ≤ 6) = true := by simpa using Decidable.of_not_not h3
   by_cases h4 : ¬ (f.params ≤ f.regs ∧ f.regs ≤ 100)
   ·rw [show headF (inN names) f = 3 from by unfold headF; rw [if_neg h1, if_neg h2, if_pos (.inr h4)]] at HR2
    have hd : decide (f.params ≤ f.regs ∧ f.regs ≤ 100) = false := by simpa using h4
    clear h1 h2 h3 h4 hm
    go_wp2_with fail
    refine Name_calls _ _ _ ?_
    rw [h1']
    go_wp2_with fail
    refine contStr_calls names _ _ _ Hnr.out _ ?_
    rw [h2']
    go_wp2_with fail
    refine Within_calls f.params 0 6 _ _ ?_
    rw [hd3]
    go_wp2_with fail
    refine Within_calls f.regs f.params 100 _ _ ?_
    rw [hd]
    go_wp2
    exact HR2.out
   have hd4 : decide (f.params ≤ f.regs ∧ f.regs ≤ 100) = true := by simpa using Decidable.of_not_not h4
   have hneg : ¬ (¬ (0 ≤ f.params ∧ f.params ≤ 6) ∨ ¬ (f.params ≤ f.regs ∧ f.regs ≤ 100)) := fun h => h.elim h3 h4
   by_cases h5 : ¬ (1 ≤ (f.blocks.length : Int) ∧ (f.blocks.length : Int) ≤ 40)
   ·rw [show headF (inN names) f = 2 from by unfold headF; rw [if_neg h1, if_neg h2, if_neg hneg, if_pos (.inl h5)]] at HR2
    have hd : decide (1 ≤ (f.blocks.length : Int) ∧ (f.blocks.length : Int) ≤ 40) = false := by simp only [decide_eq_false_iff_not]; exact h5
    clear h1 h2 h3 h4 h5 hneg hm
    go_wp2_with fail
    refine Name_calls _ _ _ ?_
    rw [h1']
    go_wp2_with fail
    refine contStr_calls names _ _ _ Hnr.out _ ?_
    rw [h2']
    go_wp2_with fail
    refine Within_calls f.params 0 6 _ _ ?_
    rw [hd3]
    go_wp2_with fail
    refine Within_calls f.regs f.params 100 _ _ ?_
    rw [hd4]
    go_wp2_with fail
    refine Within_calls (f.blocks.length : Int) 1 40 _ _ ?_
    rw [hd]
    go_wp2
    exact HR2.out
   have hd5 : decide (1 ≤ (f.blocks.length : Int) ∧ (f.blocks.length : Int) ≤ 40) = true := by simp only [decide_eq_true_eq]; exact Decidable.of_not_not h5
   by_cases h6 : 300 < m
   ·rw [show headF (inN names) f = 2 from by unfold headF; rw [hm, if_neg h1, if_neg h2, if_neg hneg, if_pos (.inr h6)]] at HR2
    clear h1 h2 h3 h4 h5 hneg hm
    go_wp2_with fail
    refine Name_calls _ _ _ ?_
    rw [h1']
    go_wp2_with fail
    refine contStr_calls names _ _ _ Hnr.out _ ?_
    rw [h2']
    go_wp2_with fail
    refine Within_calls f.params 0 6 _ _ ?_
    rw [hd3]
    go_wp2_with fail
    refine Within_calls f.regs f.params 100 _ _ ?_
    rw [hd4]
    go_wp2_with fail
    refine Within_calls (f.blocks.length : Int) 1 40 _ _ ?_
    rw [hd5]
    go_wp2
    exact HR2.out
   ·rw [show headF (inN names) f = 0 from by unfold headF; rw [hm, if_neg h1, if_neg h2, if_neg hneg, if_neg (fun h => h.elim h5 h6)]] at HR2
    clear h1 h2 h3 h4 h5 hneg hm
    go_wp2_with fail
    refine Name_calls _ _ _ ?_
    rw [h1']
    go_wp2_with fail
    refine contStr_calls names _ _ _ Hnr.out _ ?_
    rw [h2']
    go_wp2_with fail
    refine Within_calls f.params 0 6 _ _ ?_
    rw [hd3]
    go_wp2_with fail
    refine Within_calls f.regs f.params 100 _ _ ?_
    rw [hd4]
    go_wp2_with fail
    refine Within_calls (f.blocks.length : Int) 1 40 _ _ ?_
    rw [hd5]
    go_wp2
    exact HR2.out
end Go.Proofs.YtdanebboiekieaaGreatDoor
