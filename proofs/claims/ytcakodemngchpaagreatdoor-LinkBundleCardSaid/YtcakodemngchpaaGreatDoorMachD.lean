/- The machine: Run. Main that tells 7, plainly. -/
import Derived.Test.YtcakodemngchpaaGreatDoorBase
import Derived.Test.YtcakodemngchpaaGreatDoorRows
import Derived.IntWalk
import Derived.Outline
import Derived.Test.YtcakodemngchpaaGreatDoorMach9
import Derived.Test.YtcakodemngchpaaGreatDoorLinkY
import Derived.Test.YtcakodemngchpaaGreatDoorKitPl
import Derived.Test.YtcakodemngchpaaGreatDoorLawI
/- The machine: Run. -/
namespace Go.Proofs.YtcakodemngchpaaGreatDoor
open Go.RowKit
set_option linter.unusedSimpArgs false
set_option linter.unusedVariables false

theorem Run1_meets (w : World) : Meets 36 #[] w (fun _ => false) (fun _ _ => True) where
  enters := ⟨Tryz.f36, Tryz.func36, by kernel_rfl, by kernel_rfl⟩
  low := fun k h => by cases h
  keep := fun _ _ _ _ _ _ => trivial
  call := fun w tr r k R _ _ _ _ _ hR => by
    have HR := Lib.hid hR
    clear hR
    show Calls Tryz.prog 36 #[.int .i64 (r : Int), .int .i64 (k : Int)] w R
    go_enter Tryz.func36, Tryz.ntmps36
    go_wp2
    go_end0
    exact HR.out w trivial (Grew.refl _ _)
theorem Grew.none_below {w w' : World} (h : Grew (fun _ => false = true) w w') : Below w.heap.size w w' := h.below (fun _ _ h => by cases h) (Nat.le_refl _)
theorem res_OutF {fn : Func} {p q : Tmp} (h : fn.results = #[.cell p 60, .cell q 27]) {tmps : Array Value} {b b' : Nat} {w : World} {x y z u c a : Value} {T T' : TypeId} (hp : tmps.getD p undef = .pointer (some ⟨b, 0, none⟩)) (hq : tmps.getD q undef = .pointer (some ⟨b', 0, none⟩))
    (hc : w.heap[b]? = some (.cells #[x, y, z, u] T (0, 0))) (hf : w.heap[b']? = some (.cells #[c, a] T' (0, 0))) : (results fn tmps).run Tryz.prog w = .ok (.tuple #[.agg #[x, y, z, u], .agg #[c, a]]) w := by
  obtain ⟨c0, c1, c2, c3, _⟩ := four_blk hc
  obtain ⟨d0, d1⟩ := cells_blk hf
  rw [Array.getD_eq_getD_getElem?] at hp hq
  simp [results, h, hp, hq, go_sem, c0, c1, c2, c3, d0, d1]
/-- What a run comes to, of an image that may be. -/
def runO (im : Image) (inp : List Int) (fuel : Nat) : Out := outM (runM (codesI im) fuel (beginM (memI im.globals) inp))
set_option maxRecDepth 100000 in
set_option maxHeartbeats 8000000 in
theorem Run_callsF (im : Image) (v1 v2 vi : Value) (inp : List Int) (fuel : Nat) (w : World) (h1 : rpGlobal.SL w w.heap.size im.globals v1) (h2 : rpRoutine.SL w w.heap.size im.routines v2) (ok : ImgOk im) (hS : Shapes w)
    (hin : rpInt.SL w w.heap.size inp vi) (hfuel : fuel ≤ 900000) (hlen : inp.length ≤ 30) (R : Ending → World → Prop)
    (hR : ∀ w' vo, Below w.heap.size w w' → rpInt.SLF w' w.heap.size w'.heap.size (runO im inp fuel).out vo →
      R (.returned (.tuple #[.agg #[.int .i64 (runO im inp fuel).st, .int .i64 (runO im inp fuel).val, vo, .int .i64 ((runO im inp fuel).steps : Int)], .agg #[.int .i64 0, .int .i64 0]])) w') :
    Calls Tryz.prog 17 #[.agg #[v1, v2], vi, .int .i64 (fuel : Int)] w R := by
  have h0 := hS.1
  obtain ⟨A1, c1, rfl, _, _, h1⟩ := h1.cases_
  obtain ⟨A2, c2, rfl, _, hcap2, h2⟩ := h2.cases_
  have HR := Lib.hid hR
  have HSh := Lib.hid hS
  have Hok := Lib.hid ok
  have HG := Lib.hid h1
  have HT := Lib.hid h2
  have Hin := Lib.hid hin
  obtain ⟨W0, hW0⟩ : ∃ W0, W0 = ((w.alloc (Obj.cells #[.slice A1 im.globals.length c1, .slice A2 im.routines.length c2] 43)).alloc (Obj.cells #[.int .i64 0, .int .i64 0, .slice none 0 0, .int .i64 0] 60)).alloc (Obj.cells #[.int .i64 0, .int .i64 0] 27) := ⟨_, rfl⟩
  have hb0 : Below w.heap.size w W0 := by subst hW0; exact bl0
  have hI : W0.heap[w.heap.size]? = some (.cells #[.slice A1 im.globals.length c1, .slice A2 im.routines.length c2] 43 (0, 0)) := by
    subst hW0
    exact blk_alloc (blk_alloc (heap_alloc_new _ _) _) _
  have hO : W0.heap[w.heap.size + 1]? = some (.cells #[.int .i64 0, .int .i64 0, .slice none 0 0, .int .i64 0] 60 (0, 0)) := by
    subst hW0
    refine blk_alloc ?_ _
    have := heap_alloc_new (w.alloc (Obj.cells #[.slice A1 im.globals.length c1, .slice A2 im.routines.length c2] 43)) (Obj.cells #[.int .i64 0, .int .i64 0, .slice none 0 0, .int .i64 0] 60)
    simpa using this
  have hF : W0.heap[w.heap.size + 2]? = some (.cells #[.int .i64 0, .int .i64 0] 27 (0, 0)) := by
    subst hW0
    have := heap_alloc_new ((w.alloc (Obj.cells #[.slice A1 im.globals.length c1, .slice A2 im.routines.length c2] 43)).alloc (Obj.cells #[.int .i64 0, .int .i64 0, .slice none 0 0, .int .i64 0] 60)) (Obj.cells #[.int .i64 0, .int .i64 0] 27)
    simpa using this
  obtain ⟨i0, i1⟩ := cells_blk hI
  have hlI := blk_lt hI
  have hlO := blk_lt hO
  have hlF := blk_lt hF
  have HW0 := Lib.hid hW0.symm
  have Hb0 := Lib.hid hb0
  have HO := Lib.hid hO
  have HF := Lib.hid hF
  clear hR hS ok h1 h2 hin hW0 hb0 hI hO hF
  go_enter Tryz.func17, Tryz.ntmps17
  go_upto_region 1 with fail
  rw [HW0.out]
  go_wp2_with fail
  have hin0 : rpInt.SL (only W0 fun k => !(fun _ => false) k) W0.heap.size inp vi := (Hin.out.up Hb0.out Hb0.out.size).mono fun p u _ hc => (only_cell_of _ _ _ rfl).trans hc
  refine run_calls im _ _ vi inp fuel 36 #[] (fun _ => false) (fun _ _ => True) _ (HG.out.up Hb0.out Hb0.out.size) (HT.out.up Hb0.out Hb0.out.size) Hok.out (HSh.out.up Hb0.out h0) hin0 hfuel hlen (Run1_meets _) trivial _ (fun w1 vc vo hg1 _ _ hvo => ?_)
  have hb1 := hg1.none_below
  have hvo3 : rpInt.SLF w1 W0.heap.size w1.heap.size (runO im inp fuel).out vo := hvo
  obtain ⟨Ao, no, rfl, _, _, hvo4⟩ := hvo3.cases_
  have HR2 := HR.out
  clear HR hvo hvo3
  simp only [show outM (runM (codesI im) fuel (beginM (memI im.globals) inp)) = runO im inp fuel from rfl]
  generalize runO im inp fuel = O at *
  obtain ⟨W1, hW1⟩ : ∃ W1, W1 = (w1.alloc (Obj.cells #[.int .i64 O.st, .int .i64 O.val, .slice Ao O.out.length no, .int .i64 (O.steps : Int)] 60)).alloc (Obj.cells #[.int .i64 0, .int .i64 0] 27) := ⟨_, rfl⟩
  have hbW1 : Below w1.heap.size w1 W1 := by subst hW1; exact bl0
  have hbb := hb1.trans (hbW1.mono hb1.size)
  have hE : W1.heap[w1.heap.size]? = some (.cells #[.int .i64 O.st, .int .i64 O.val, .slice Ao O.out.length no, .int .i64 (O.steps : Int)] 60 (0, 0)) := by subst hW1; exact blk_alloc (heap_alloc_new _ _) _
  have hE2 : W1.heap[w1.heap.size + 1]? = some (.cells #[.int .i64 0, .int .i64 0] 27 (0, 0)) := by
    subst hW1
    have := heap_alloc_new (w1.alloc (Obj.cells #[.int .i64 O.st, .int .i64 O.val, .slice Ao O.out.length no, .int .i64 (O.steps : Int)] 60)) (Obj.cells #[.int .i64 0, .int .i64 0] 27)
    simpa using this
  have hO1 := (hbb.block _ hlO).trans HO.out
  have hF1 := (hbb.block _ hlF).trans HF.out
  obtain ⟨g1, g2, g3⟩ := finW_facts (.int .i64 O.st) (.int .i64 O.val) (.slice Ao O.out.length no) (.int .i64 (O.steps : Int)) hO1 hF1
  have hbq : Below w.heap.size W1 (finW W1 w.heap.size (.int .i64 O.st) (.int .i64 O.val) (.slice Ao O.out.length no) (.int .i64 (O.steps : Int))) := g3.below (fun k hk => by omega) (by have := hbb.size; omega)
  have hbe := (Hb0.out.trans (hbb.mono Hb0.out.size)).trans hbq
  have hw1 : W0.heap.size ≤ w1.heap.size := hb1.size
  have hvo5 : rpInt.SLF (finW W1 w.heap.size (.int .i64 O.st) (.int .i64 O.val) (.slice Ao O.out.length no) (.int .i64 (O.steps : Int))) W0.heap.size (finW W1 w.heap.size (.int .i64 O.st) (.int .i64 O.val) (.slice Ao O.out.length no) (.int .i64 (O.steps : Int))).heap.size O.out (.slice Ao O.out.length no) :=
    ((hvo4.below hbW1 (Nat.le_refl _)).keep fun k h1 h2 => g3.block k h2 (fun h => by omega)).more (Nat.le_refl _) (Nat.le_trans hbW1.size g3.size)
  have hend := HR2 _ (.slice Ao O.out.length no) hbe (hvo5.more Hb0.out.size (Nat.le_refl _))
  obtain ⟨e0, e1, e2, e3, ez⟩ := four_blk hE
  obtain ⟨d0, d1⟩ := cells_blk hE2
  obtain ⟨o0, o1, o2, o3, oz⟩ := four_blk hO1
  obtain ⟨f0, f1, z0, z1⟩ := cells_of_block hF1
  have hlE := blk_lt hE
  have hlE2 := blk_lt hE2
  have hlO1 := blk_lt hO1
  have hlF1 := blk_lt hF1
  have hne1 : w1.heap.size ≠ w.heap.size + 1 := by omega
  have hne2 : w1.heap.size ≠ w.heap.size + 2 := by omega
  have hne3 : w1.heap.size + 1 ≠ w.heap.size + 1 := by omega
  have hne4 : w1.heap.size + 1 ≠ w.heap.size + 2 := by omega
  have HW1 := Lib.hid hW1.symm
  have Hend := Lib.hid hend
  have G1 := Lib.hid g1
  have G2 := Lib.hid g2
  clear hW1 hend g1 g2 g3 hbq hbe hvo5 hvo4 hE hE2 hO1 hF1 hbW1 hbb hb1 hg1 HR2
  go_upto_region 2 with fail
  rw [HW1.out]
  go_region
  go_wp2
  exact bodyPost_ret (v := .tuple #[.agg #[.int .i64 O.st, .int .i64 O.val, .slice Ao O.out.length no, .int .i64 (O.steps : Int)], .agg #[.int .i64 0, .int .i64 0]]) (res_OutF (by rfl) (by rfl) (by rfl) G1.out G2.out) rfl Hend.out
theorem Run_calls (im : Image) (v1 v2 vi : Value) (inp : List Int) (fuel : Nat) (w : World) (h1 : rpGlobal.SL w w.heap.size im.globals v1) (h2 : rpRoutine.SL w w.heap.size im.routines v2) (ok : ImgOk im) (hS : Shapes w)
    (hin : rpInt.SL w w.heap.size inp vi) (hfuel : fuel ≤ 900000) (hlen : inp.length ≤ 30) (R : Ending → World → Prop)
    (hR : ∀ w' vo, Below w.heap.size w w' → rpInt.SL w' w'.heap.size (runO im inp fuel).out vo →
      R (.returned (.tuple #[.agg #[.int .i64 (runO im inp fuel).st, .int .i64 (runO im inp fuel).val, vo, .int .i64 ((runO im inp fuel).steps : Int)], .agg #[.int .i64 0, .int .i64 0]])) w') :
    Calls Tryz.prog 17 #[.agg #[v1, v2], vi, .int .i64 (fuel : Int)] w R :=
  Run_callsF im v1 v2 vi inp fuel w h1 h2 ok hS hin hfuel hlen R fun w' vo hb h => hR w' vo hb h.SL
end Go.Proofs.YtcakodemngchpaaGreatDoor

/- Main that tells 7, plainly. -/
namespace Go.Proofs.YtcakodemngchpaaGreatDoor
open Go.RowKit
set_option linter.unusedSimpArgs false
set_option linter.unusedVariables false

def sureC : List Mac := [⟨1, 0, 0, 0, 7⟩, ⟨45, 0, 0, 0, 0⟩]
def sureO : Object := ⟨[], [⟨mainB, codeB sureC, []⟩]⟩
def sureI : Image := ⟨[], [⟨mainB, codeB sureC⟩]⟩
theorem rout_map {l : List Routine} {n : ByteArray} {c : List UInt8} (h : (l.map fun r => (r.name, r.code)) = [(n, c)]) : l = [⟨n, c⟩] := by
  cases l with
  | nil => simp at h
  | cons r l =>
    cases l with
    | cons r' l' => simp at h
    | nil =>
      simp at h
      obtain ⟨h1, h2⟩ := h
      rw [← h1, ← h2]
theorem sure_do : linkDo [sureO] = (sureI, (0, 0)) := by
  have h1 : (linkDo [sureO]).2 = (0, 0) := by decide +kernel
  have h2 : (linkDo [sureO]).1.globals.length = 0 := by decide +kernel
  have h3 : ((linkDo [sureO]).1.routines.map fun r => (r.name, r.code)) = [(mainB, codeB sureC)] := by decide +kernel
  have h4 := rout_map h3
  have h5 := List.eq_nil_of_length_eq_zero h2
  generalize linkDo [sureO] = x at *
  obtain ⟨⟨g, r⟩, f⟩ := x
  simp only at h1 h4 h5
  rw [h1, h4, h5]
  rfl
theorem rpObject_mk {w : World} {B : Nat} {o : Object} {v1 v2 : Value} (h1 : rpGlobal.SL w B o.globals v1) (h2 : rpSection.SL w B o.sections v2) : rpObject.rep w B o [v1, v2] :=
  ⟨[v1], [v2], rfl, ⟨v1, rfl, h1⟩, ⟨v2, rfl, h2⟩⟩
theorem sure_read : readL (codeB sureC) = some sureC := by decide +kernel
theorem sure_good : ∀ m ∈ sureC, GoodMac m := (readL_good sure_read).1
theorem sure_img : ImgOk sureI where
  glob := by decide +kernel
  some_ := by decide
  few := by decide
  each := fun k r h => by
    cases k with
    | zero =>
      have e : r = ⟨mainB, codeB sureC⟩ := by simpa [sureI] using h.symm
      subst e
      refine ⟨by decide +kernel, fun _ => rfl, by decide +kernel, fun j x hj => by omega, sureC, sure_read, ?_⟩
      intro x hx ho
      simp [sureC] at hx
      rcases hx with rfl | rfl <;> simp at ho
    | succ k => simp [sureI] at h
theorem sure_codes : codesI sureI = [sureC] := by
  show [(readL (codeB sureC)).getD []] = [sureC]
  rw [sure_read]
  rfl
theorem sure_run : (runO sureI [] 9).val = 7 := by
  unfold runO
  rw [sure_codes]
  decide +kernel
theorem SL_one {α : Type} {r : Rp α} {w : World} {B b : Nat} {x : α} {cs : List Value} {T : TypeId} {fr : Nat × Nat} (hb : w.heap[b]? = some (.cells cs.toArray T fr)) (hB : b < B) (hr : r.rep w B x cs) : r.SL w B [x] (.slice (some ⟨b, 0, none⟩) 1 1) :=
  ⟨_, 1, rfl, by unfold maxLen; simp, Nat.le_refl _, fun _ => ⟨b, 0, rfl, hB, fun k y hk => by
    cases k with
    | zero =>
      have e : y = x := by simpa using hk.symm
      subst e
      refine ⟨cs, hr, fun j u hj => ?_⟩
      rw [blk_cell hb]
      simpa using hj
    | succ k => simp at hk⟩⟩
end Go.Proofs.YtcakodemngchpaaGreatDoor
