/- turnerykit's functions around the machine: Alone, Sure. -/
import Derived.Test.YtemakpjickbmnaaDoorBase
import Derived.Test.YtemakpjickbmnaaDoorRows
import Derived.IntWalk
import Derived.Outline
import Derived.Deep.RegionLaw
import Derived.Test.YtemakpjickbmnaaDoorKm1
import Derived.Test.YtemakpjickbmnaaDoorOfB
namespace Go.Proofs.YtemakpjickbmnaaDoor
open Go.RowKit
set_option linter.unusedSimpArgs false
set_option linter.unusedVariables false

set_option maxRecDepth 100000 in
set_option maxHeartbeats 2000000 in
theorem CodeP_calls (l : List Mac) (v : Value) (w : World) (h : rpMac.SL w w.heap.size l v) (hf : macsFault l = (0, 0)) (hg : ∀ m ∈ l, GoodMac m) (hlen : l.length ≤ 100000) (hS : Shapes w) (R : Ending → World → Prop)
    (hR : ∀ w' v', Below w.heap.size w w' → rpByte.SL w' w'.heap.size (codeB l) v' → R (.returned (.tuple #[v', .agg #[.int .i64 0, .int .i64 0]])) w') :
    Calls Tryd.prog 44 #[v] w R := by
  have h0 := hS.1
  have HS := Lib.hid hS
  have HR := Lib.hid hR
  have Hs := Lib.hid h
  have Hg := Lib.hid hg
  have Hf := Lib.hid hf
  clear hS hR h hg hf
  go_enter Tryd.func44, Tryd.ntmps44
  go_wp2_with fail
  refine Check_calls _ l _ (Hs.out.up (by exact bl0) (by simp)) (HS.out.up (by exact bl0) h0) _ ?_
  intro w1 hb1
  rw [Hf.out]
  have hz : w.heap.size < w1.heap.size := by have := hb1.size; simp at this; omega
  have hE : w1.heap[w.heap.size]? = some (.cells #[.int .i64 0, .int .i64 0] 25 (0, 0)) := (hb1.block _ (by simp)).trans (heap_alloc_new _ _)
  have Hb1 := Lib.hid (show Below w.heap.size w w1 from (by exact bl0 : Below w.heap.size w _).trans (hb1.mono (by simp)))
  have HE := Lib.hid hE
  clear hb1 hE
  have hbA : Below w1.heap.size w1 (w1.alloc (Obj.cells #[.int .i64 0, .int .i64 0] 25)) := bl0
  have HbA := Lib.hid (Hb1.out.trans (hbA.mono Hb1.out.size))
  go_wp2_with fail
  refine OfB_calls l _ _ (Hs.out.up HbA.out HbA.out.size) Hg.out hlen (HS.out.up HbA.out h0) _ (fun w2 v2 hb2 hbuf => ?_)
  have hE2 := (hb2.block _ (by simp; omega)).trans (blk_alloc HE.out (Obj.cells #[.int .i64 0, .int .i64 0] 25))
  have Hb2 := Lib.hid (HbA.out.trans (hb2.mono HbA.out.size))
  obtain ⟨e0, e1⟩ := cells_blk hE2
  have hl2 := blk_lt hE2
  have f0 : w2.frozen? ⟨w.heap.size, 0, none⟩ = false := by simp [World.frozen?, hE2]
  have f1 : w2.frozen? ⟨w.heap.size, 1, none⟩ = false := by simp [World.frozen?, hE2]
  have HE2 := Lib.hid hE2
  obtain ⟨A2, c2, rfl⟩ := hbuf.slice
  have hbuf2 : Buf ((w2.setCell ⟨w.heap.size, 0, none⟩ (.int .i64 0)).setCell ⟨w.heap.size, 1, none⟩ (.int .i64 0)) (w1.alloc (Obj.cells #[.int .i64 0, .int .i64 0] 25)).heap.size (.slice A2 (codeB l).length c2) (codeB l) := hbuf.keep fun k hk hl => by
    have := (hbuf.lt k hk).1
    have hne : k ≠ w.heap.size := by simp at this; omega
    rw [Below.heap_setCell _ _ _ _ hne, Below.heap_setCell _ _ _ _ hne]
  have Hfin := Lib.hid (HR.out _ _ ((Hb2.out.setCell (p := ⟨w.heap.size, 0, none⟩) (Nat.le_refl _) (.int .i64 0)).setCell (p := ⟨w.heap.size, 1, none⟩) (Nat.le_refl _) (.int .i64 0)) (hbuf2.SL (Nat.le_refl _)))
  generalize (codeB l).length = N at *
  clear hb2 hE2 hbuf hbuf2 hbA
  go_wp2
  refine bodyPost_ret (v := .tuple #[.slice A2 N c2, .agg #[.int .i64 0, .int .i64 0]]) (res_slice_Fault (by rfl) (by rfl) (by rfl) (cells_blk (T := 25) (by exact (blkp HE2.out)))) rfl ?_
  exact Hfin.out
set_option maxRecDepth 100000 in
set_option maxHeartbeats 2000000 in
theorem Alone_calls (l : List Mac) (v : Value) (w : World) (h : rpMac.SL w w.heap.size l v) (hg : ∀ m ∈ l, GoodMac m) (hlen : l.length ≤ 100000) (R : Ending → World → Prop)
    (hR : ∀ w' v1 v2, Below w.heap.size w w' → rpGlobal.SL w' w'.heap.size kitGlobals v1 → rpRoutine.SL w' w'.heap.size [⟨mainB, codeB l⟩] v2 → R (.returned (.agg #[v1, v2])) w') :
    Calls Tryd.prog 19 #[v] w R := by
  have HR := Lib.hid hR
  have Hs := Lib.hid h
  have Hg := Lib.hid hg
  clear hR h hg
  go_enter Tryd.func19, Tryd.ntmps19
  go_wp2_with fail
  refine KitGlobals_calls _ _ (fun w1 v1 hb1 hg1 => ?_)
  have hE : w1.heap[w.heap.size]? = some (.cells #[.slice none 0 0, .slice none 0 0] 50 (0, 0)) := (hb1.block _ (by simp)).trans (heap_alloc_new _ _)
  have Hb1 := Lib.hid (show Below w.heap.size w w1 from (by exact bl0 : Below w.heap.size w _).trans (hb1.mono (by simp)))
  have hz1 : w.heap.size + 1 ≤ w1.heap.size := by have := hb1.size; simp at this; omega
  obtain ⟨A1, n1, rfl, hm1, hc1, hg1⟩ := hg1.cases_
  obtain ⟨L, hL⟩ : ∃ L, kitGlobals.length = L := ⟨_, rfl⟩
  rw [hL] at hg1 ⊢
  have Hg1 := Lib.hid hg1
  have HE := Lib.hid hE
  clear hb1 hE hg1 hL
  go_wp2_with fail
  refine CodeBytes_calls l _ _ (Hs.out.up Hb1.out Hb1.out.size) Hg.out hlen _ (fun w2 v2 hb2 hbuf => ?_)
  have hE2 := (hb2.block _ (blk_lt HE.out)).trans HE.out
  have hB2 := Hb1.out.trans (hb2.mono Hb1.out.size)
  have hz2 := hb2.size
  obtain ⟨A2, c2, rfl⟩ := hbuf.slice
  obtain ⟨W3, hW3⟩ : ∃ W3, W3 = (w2.setCell ⟨w.heap.size, 0, none⟩ (.slice A1 L n1)).setCell ⟨w.heap.size, 1, none⟩ (.slice (some ⟨w2.heap.size, 0, none⟩) 1 1) := ⟨_, rfl⟩
  have hz3 : W3.heap.size = w2.heap.size := by rw [hW3]; simp
  have hk3 : ∀ k, k ≠ w.heap.size → W3.heap[k]? = w2.heap[k]? := fun k hk => by rw [hW3, Below.heap_setCell _ _ _ _ hk, Below.heap_setCell _ _ _ _ hk]
  have hB3 : Below w.heap.size w W3 := by rw [hW3]; exact (hB2.setCell (p := ⟨w.heap.size, 0, none⟩) (Nat.le_refl _) _).setCell (p := ⟨w.heap.size, 1, none⟩) (Nat.le_refl _) _
  have hE3 : W3.heap[w.heap.size]? = some (.cells #[.slice A1 L n1, .slice (some ⟨w2.heap.size, 0, none⟩) 1 1] 50 (0, 0)) := by
    rw [hW3]
    have := block_set (j := 1) (block_set (j := 0) hE2 (.slice A1 L n1)) (.slice (some ⟨w2.heap.size, 0, none⟩) 1 1)
    simpa using this
  obtain ⟨W4, hW4⟩ : ∃ W4, W4 = W3.alloc (Obj.cells #[.string ⟨#[109, 97, 105, 110]⟩, .slice A2 (codeB l).length c2] 75) := ⟨_, rfl⟩
  have hbW4 : Below W3.heap.size W3 W4 := by subst hW4; exact bl0
  have hz4 : W4.heap.size = w2.heap.size + 1 := by subst hW4; simp; exact hz3
  have hk4 : ∀ k, k < w2.heap.size → k ≠ w.heap.size → W4.heap[k]? = w2.heap[k]? := fun k hl hk => by rw [hbW4.block k (by omega), hk3 k hk]
  have hB4 : Below w.heap.size w W4 := hB3.trans (hbW4.mono hB3.size)
  have hR4 : W4.heap[w2.heap.size]? = some (.cells #[.string ⟨#[109, 97, 105, 110]⟩, .slice A2 (codeB l).length c2] 75 (0, 0)) := by rw [hW4, ← hz3]; exact heap_alloc_new _ _
  have hE4 : W4.heap[w.heap.size]? = some (.cells #[.slice A1 L n1, .slice (some ⟨w2.heap.size, 0, none⟩) 1 1] 50 (0, 0)) := by rw [hW4]; exact blk_alloc hE3 _
  have hg4 : rpGlobal.SL W4 W4.heap.size kitGlobals (.slice A1 L n1) := by
    have e1 : rpGlobal.SLF w2 (w.alloc (Obj.cells #[.slice none 0 0, .slice none 0 0] 50)).heap.size w1.heap.size kitGlobals (.slice A1 L n1) := Hg1.out.keep fun k _ hk => hb2.block k hk
    have e2 : rpGlobal.SLF W4 (w.alloc (Obj.cells #[.slice none 0 0, .slice none 0 0] 50)).heap.size w1.heap.size kitGlobals (.slice A1 L n1) := e1.keep fun k hk hl => hk4 k hl (by simp at hk; omega)
    exact (e2.more (Nat.le_refl _) (by omega)).SL
  have hc4 : rpByte.SL W4 W4.heap.size (codeB l) (.slice A2 (codeB l).length c2) := by
    have e2 : Buf W4 w1.heap.size (.slice A2 (codeB l).length c2) (codeB l) := hbuf.keep fun k hk hl => hk4 k hl (by have := (hbuf.lt k hk).1; omega)
    exact e2.SL (Nat.le_refl _)
  have hr4 : rpRoutine.SL W4 W4.heap.size [⟨mainB, codeB l⟩] (.slice (some ⟨w2.heap.size, 0, none⟩) 1 1) :=
    SL_one (cs := [.string ⟨#[109, 97, 105, 110]⟩, .slice A2 (codeB l).length c2]) hR4 (by omega) (rpRoutine_mk hc4)
  have Hfin := Lib.hid (HR.out W4 _ _ hB4 hg4 hr4)
  obtain ⟨e0, e1⟩ := cells_blk hE2
  obtain ⟨g0, g1⟩ := cells_blk hE4
  have f0 : w2.frozen? ⟨w.heap.size, 0, none⟩ = false := by simp [World.frozen?, hE2]
  have f1 : w2.frozen? ⟨w.heap.size, 1, none⟩ = false := by simp [World.frozen?, hE2]
  have l3 := blk_lt hE2
  have HW3 := Lib.hid hW3.symm
  have HW4 := Lib.hid hW4.symm
  have G0 := Lib.hid g0
  have G1 := Lib.hid g1
  generalize (codeB l).length = NN at *
  clear hb2 hbuf hE2 hB2 hW3 hW4 hbW4 hR4 hE3 hB3 hk3 hz3 hk4 hB4 hE4 hg4 hc4 hr4 hz4 g0 g1
  go_wp2
  rw [HW3.out, HW4.out]
  refine bodyPost_ret (v := .agg #[.slice A1 L n1, .slice (some ⟨w2.heap.size, 0, none⟩) 1 1]) (by simp [results, Tryd.results19, go_sem, G0.out, G1.out]) rfl ?_
  exact Hfin.out
end Go.Proofs.YtemakpjickbmnaaDoor
