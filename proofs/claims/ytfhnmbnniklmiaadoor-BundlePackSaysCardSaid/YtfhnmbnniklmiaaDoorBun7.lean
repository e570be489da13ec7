/- bundle.Pack and the document's BundlePack; the law that compares them. -/
import Derived.Test.YtfhnmbnniklmiaaDoorBase
import Derived.Test.YtfhnmbnniklmiaaDoorRows
import Derived.IntWalk
import Derived.Outline
import Derived.Test.YtfhnmbnniklmiaaDoorReadC
import Derived.Test.YtfhnmbnniklmiaaDoorBun4
import Derived.Test.YtfhnmbnniklmiaaDoorBun6
namespace Go.Proofs.YtfhnmbnniklmiaaDoor
open Go.RowKit
set_option linter.unusedSimpArgs false
set_option linter.unusedVariables false

theorem res_slF {fn : Func} {t p : Tmp} (h : fn.results = #[.tmp t, .cell p 25]) {tmps : Array Value} {b : Nat} {w : World} {v x y : Value} {T : TypeId} (ht : tmps.getD t undef = v) (hp : tmps.getD p undef = .pointer (some ⟨b, 0, none⟩))
    (hc : w.heap[b]? = some (.cells #[x, y] T (0, 0))) : (results fn tmps).run Tryd.prog w = .ok (.tuple #[v, .agg #[x, y]]) w :=
  res_slice_Fault h ht hp (cells_blk hc)
theorem buf_nil (w : World) (base : Nat) : Buf w base (.slice none 0 0) [] := .inl (World.ownsRow_nil _ _ _ _)

theorem pack_bad {l : List Object} (h : (bunF l).1 ≠ 0) : packO l = [] ∧ packF l = bunF l := by
  unfold packO packF
  rw [if_pos h, if_pos h]
  exact ⟨rfl, rfl⟩
theorem pack_long {l : List Object} (h : bunF l = (0, 0)) (hl : 90000 < (packB l).length) : packO l = [] ∧ packF l = (10, 0) := by
  unfold packO packF
  have h1 : ¬ (bunF l).1 ≠ 0 := by rw [h]; simp
  rw [if_neg h1, if_neg h1, if_pos hl, if_pos hl]
  exact ⟨rfl, rfl⟩
theorem pack_fine {l : List Object} (h : bunF l = (0, 0)) (hl : ¬ 90000 < (packB l).length) : packO l = packB l ∧ packF l = (0, 0) := by
  unfold packO packF
  have h1 : ¬ (bunF l).1 ≠ 0 := by rw [h]; simp
  rw [if_neg h1, if_neg h1, if_neg hl, if_neg hl]
  exact ⟨rfl, rfl⟩

set_option maxRecDepth 100000 in
set_option maxHeartbeats 4000000 in
theorem Pack_calls (l : List Object) (v : Value) (w : World) (h : rpObject.SL w w.heap.size l v) (hwide : ∀ o ∈ l, Wide o) (hS : Shapes w) (R : Ending → World → Prop)
    (hR : ∀ w' v', Below w.heap.size w w' → Buf w' w.heap.size v' (packO l) → R (.returned (.tuple #[v', (.agg #[.int .i64 (packF l).1, .int .i64 (packF l).2])])) w') :
    Calls Tryd.prog 20 #[v] w R := by
  have h0 := hS.1
  obtain ⟨A1, n1, rfl, hm1, hcap1, h⟩ := h.cases_
  have HS := Lib.hid hS
  have HR := Lib.hid hR
  have H := Lib.hid h
  have Hwide := Lib.hid hwide
  obtain ⟨W0, hW0⟩ : ∃ W0, W0 = w.alloc (Obj.cells #[.int .i64 0, .int .i64 0] 25) := ⟨_, rfl⟩
  have hb0 : Below w.heap.size w W0 := by subst hW0; exact (by repeat (first | exact Below.refl _ _ | assumption | refine below_drewN ?_ _ | refine Below.drew ?_ | refine Below.setCell ?_ (by first | omega | (simp; done) | (simp; omega)) _ | refine Below.alloc ?_ (by first | omega | (simp; done) | (simp; omega)) _ | refine below_step (by assumption) ?_ (by first | omega | (simp; done) | (simp; omega))))
  have hz0 : W0.heap.size = w.heap.size + 1 := by subst hW0; simp
  have hF : W0.heap[w.heap.size]? = some (.cells #[.int .i64 0, .int .i64 0] 25 (0, 0)) := by
    subst hW0
    exact heap_alloc_new _ _
  have HF := Lib.hid hF
  have HW := Lib.hid hW0.symm
  have Hb0 := Lib.hid hb0
  have Hz0 := Lib.hid hz0
  have HK : Hid (∀ W, Below (w.heap.size + 1) W0 W → W.heap[w.heap.size]? = some (.cells #[.int .i64 0, .int .i64 0] 25 (0, 0)) ∧ w.heap.size + 1 ≤ W.heap.size ∧ Below w.heap.size w W) := Lib.hid fun W h =>
    ⟨(h.block _ (by omega)).trans HF.out, by have := h.size; rw [Hz0.out] at this; exact this, Hb0.out.trans (h.mono (by omega))⟩
  clear hR h hF hW0 hb0 hz0 hwide hS
  go_enter Tryd.func20, Tryd.ntmps20
  go_wp2_with fail
  rw [HW.out]
  refine bunFault_calls l _ _ (H.out.up Hb0.out Hb0.out.size) (HS.out.up Hb0.out h0) _ (fun w1 hb1 => ?_)
  rw [Hz0.out] at hb1
  obtain ⟨k2, k3, k4⟩ := HK.out _ hb1
  obtain ⟨d0, d1, y0, y1⟩ := cells_of_block k2
  have hp1 : w.heap.size < w1.heap.size := by omega
  have HF1 := Lib.hid k2
  have Hk4 := Lib.hid k4
  have Hb1 := Lib.hid hb1
  have hfz := fun h => (bunF_ok (l := l) h).1
  obtain ⟨⟨c, a⟩, hFa⟩ : ∃ F, F = bunF l := ⟨_, rfl⟩
  rw [← hFa] at hfz ⊢
  have Hfa := Lib.hid hFa
  simp only [] at hfz ⊢
  clear hb1 k2 k4 hFa HW
  by_cases hc : c = 0
  rotate_left
  · have hq : ∀ w, (binOp .neq 25 (.agg #[.int .i64 c, .int .i64 a]) (.agg #[.int .i64 0, .int .i64 0])).run Tryd.prog w = .ok (.bool true) w := fun w => by
      rw [neq_Fault]
      simp [hc]
    have hsb := pack_bad (l := l) (by rw [← Hfa.out]; exact hc)
    have hret := HR.out
    rw [hsb.1, hsb.2, ← Hfa.out] at hret
    have Hret := Lib.hid hret
    clear hfz hc hret hsb
    go_wp2
    go_region
    all_goals
      go_wp2
      refine bodyPost_ret (v := .tuple #[.slice none 0 0, .agg #[.int .i64 c, .int .i64 a]]) (res_slF (by rfl) (by rfl) (by rfl) (by repeat (first | with_reducible exact HF1.out | with_reducible refine blk_drew ?_ | with_reducible refine blk_drewN ?_ _ | with_reducible refine blk_alloc ?_ _ | with_reducible apply blk_set1 | with_reducible apply blk_set0 | with_reducible refine blk_other ?_ (by first | (simp; done) | omega | (simp; omega)) _))) rfl ?_
      have hb := Hk4.out
      refine Hret.out _ _ ?_ (buf_nil _ _)
      exact (by repeat (first | exact Below.refl _ _ | assumption | refine below_drewN ?_ _ | refine Below.drew ?_ | refine Below.setCell ?_ (by first | omega | (simp; done) | (simp; omega)) _ | refine Below.alloc ?_ (by first | omega | (simp; done) | (simp; omega)) _ | refine below_step (by assumption) ?_ (by first | omega | (simp; done) | (simp; omega))))
  · have hq : ∀ w, (binOp .neq 25 (.agg #[.int .i64 0, .int .i64 0]) (.agg #[.int .i64 0, .int .i64 0])).run Tryd.prog w = .ok (.bool false) w := fun w => neq_Fault 0 0 0 0 w
    have hca := hfz hc
    simp only [Prod.mk.injEq] at hca
    obtain ⟨rfl, rfl⟩ := hca
    have hok := (bunF_ok (l := l) (by rw [← Hfa.out])).2
    have Hok := Lib.hid hok
    have HA : Hid (∀ W, Below w1.heap.size w1 W → rpObject.SL W W.heap.size l (.slice A1 l.length n1)) := Lib.hid fun W h => by
      have hb := Hk4.out.trans (h.mono (by omega))
      exact H.out.up hb hb.size
    clear hfz hc hok
    go_wp2_with fail
    have hal : Below w1.heap.size w1 (w1.alloc (Obj.cells #[.int .i64 0, .int .i64 0] 25)) := (Below.refl _ _).alloc (Nat.le_refl _) _
    refine bunPack_calls l _ _ (HA.out _ hal) Hok.out Hwide.out _ (fun w2 v2 hb2 hbuf2 => ?_)
    have hz2 := hb2.size
    have hbel2 := Hb1.out.trans (hal.trans (hb2.mono (by simp)) |>.mono (by omega))
    obtain ⟨k2, k3, k4⟩ := HK.out _ hbel2
    obtain ⟨d0, d1, y0, y1⟩ := cells_of_block k2
    obtain ⟨A3, c3, rfl⟩ := hbuf2.slice
    have hq1 : w.heap.size < w2.heap.size := by omega
    have HF2 := Lib.hid k2
    have Hk2 := Lib.hid k4
    have Hbuf2 := Lib.hid (hbuf2.base (b' := w.heap.size + 1) (by simp; omega))
    obtain ⟨L, hL⟩ : ∃ L, L = packB l := ⟨_, rfl⟩
    rw [← hL] at Hbuf2 ⊢
    have HL := Lib.hid hL
    clear hb2 hbuf2 hbel2 k2 k4 hal hL
    by_cases hl : 90000 < L.length
    · have hli : (90000 : Int) < (L.length : Int) := by omega
      have hsb := pack_long Hfa.out.symm (by rw [← HL.out]; exact hl)
      have hr2 := HR.out
      rw [hsb.1, hsb.2] at hr2
      have Hr2 := Lib.hid hr2
      clear hl hr2 hsb
      go_wp2_with fail
      refine Fault_calls _ _ _ _ (fun w3 hb3 => ?_)
      have hz3 := hb3.size
      have HF3 := Lib.hid ((hb3.block _ hq1).trans HF2.out)
      have hF3 := HF3.out
      obtain ⟨e0, e1, x0, x1⟩ := cells_of_block hF3
      have hend := Lib.hid (Hk2.out.trans (hb3.mono (by omega)))
      have hq3 : w.heap.size < w3.heap.size := by omega
      clear hb3 hF3 d0 d1 y0 y1
      go_wp2
      refine bodyPost_ret (v := .tuple #[.slice none 0 0, .agg #[.int .i64 10, .int .i64 0]]) (res_slF (by rfl) (by rfl) (by rfl) (by repeat (first | with_reducible exact HF3.out | with_reducible refine blk_drew ?_ | with_reducible refine blk_drewN ?_ _ | with_reducible refine blk_alloc ?_ _ | with_reducible apply blk_set1 | with_reducible apply blk_set0 | with_reducible refine blk_other ?_ (by first | (simp; done) | omega | (simp; omega)) _))) rfl ?_
      have hb := hend.out
      refine Hr2.out _ _ ?_ (buf_nil _ _)
      exact (by repeat (first | exact Below.refl _ _ | assumption | refine below_drewN ?_ _ | refine Below.drew ?_ | refine Below.setCell ?_ (by first | omega | (simp; done) | (simp; omega)) _ | refine Below.alloc ?_ (by first | omega | (simp; done) | (simp; omega)) _ | refine below_step (by assumption) ?_ (by first | omega | (simp; done) | (simp; omega))))
    · have hli : ¬ (90000 : Int) < (L.length : Int) := by omega
      have hsb := pack_fine Hfa.out.symm (by rw [← HL.out]; exact hl)
      have hr2 := HR.out
      rw [hsb.1, hsb.2, ← HL.out] at hr2
      have Hr2 := Lib.hid hr2
      clear hl hr2 hsb
      go_wp2
      refine bodyPost_ret (v := .tuple #[.slice A3 L.length c3, .agg #[.int .i64 0, .int .i64 0]]) (res_slF (by rfl) (by rfl) (by rfl) (by repeat (first | with_reducible exact HF2.out | with_reducible refine blk_drew ?_ | with_reducible refine blk_drewN ?_ _ | with_reducible refine blk_alloc ?_ _ | with_reducible apply blk_set1 | with_reducible apply blk_set0 | with_reducible refine blk_other ?_ (by first | (simp; done) | omega | (simp; omega)) _))) rfl ?_
      have hb := Hk2.out
      have hbb := ((Hbuf2.out.grew (Grew.of_grown (grown_setCell w2 ⟨w.heap.size, 0, none⟩ (.int .i64 0))) (fun k hk e => by have := (Hbuf2.out.lt k hk).1; have := Option.some.inj e; simp at this; omega)).grew (Grew.of_grown (grown_setCell _ ⟨w.heap.size, 1, none⟩ (.int .i64 0))) (fun k hk e => by have := (Hbuf2.out.lt k hk).1; have := Option.some.inj e; simp at this; omega)).base (b' := w.heap.size) (by omega)
      refine Hr2.out _ _ ?_ hbb
      exact (by repeat (first | exact Below.refl _ _ | assumption | refine below_drewN ?_ _ | refine Below.drew ?_ | refine Below.setCell ?_ (by first | omega | (simp; done) | (simp; omega)) _ | refine Below.alloc ?_ (by first | omega | (simp; done) | (simp; omega)) _ | refine below_step (by assumption) ?_ (by first | omega | (simp; done) | (simp; omega))))

set_option maxRecDepth 100000 in
set_option maxHeartbeats 4000000 in
theorem BundlePack_calls (l : List Object) (v : Value) (w : World) (h : rpObject.SL w w.heap.size l v) (hwide : ∀ o ∈ l, Wide o) (R : Ending → World → Prop)
    (hR : ∀ w' v', Below w.heap.size w w' → Buf w' w.heap.size v' (packO l) → R (.returned (.tuple #[v', (.agg #[.int .i64 (packF l).1, .int .i64 (packF l).2])])) w') :
    Calls Tryd.prog 21 #[v] w R := by
  obtain ⟨A1, n1, rfl, hm1, hcap1, h⟩ := h.cases_
  have HR := Lib.hid hR
  have H := Lib.hid h
  have Hwide := Lib.hid hwide
  obtain ⟨W0, hW0⟩ : ∃ W0, W0 = w.alloc (Obj.cells #[.int .i64 0, .int .i64 0] 25) := ⟨_, rfl⟩
  have hb0 : Below w.heap.size w W0 := by subst hW0; exact (by repeat (first | exact Below.refl _ _ | assumption | refine below_drewN ?_ _ | refine Below.drew ?_ | refine Below.setCell ?_ (by first | omega | (simp; done) | (simp; omega)) _ | refine Below.alloc ?_ (by first | omega | (simp; done) | (simp; omega)) _ | refine below_step (by assumption) ?_ (by first | omega | (simp; done) | (simp; omega))))
  have hz0 : W0.heap.size = w.heap.size + 1 := by subst hW0; simp
  have hF : W0.heap[w.heap.size]? = some (.cells #[.int .i64 0, .int .i64 0] 25 (0, 0)) := by
    subst hW0
    exact heap_alloc_new _ _
  have HF := Lib.hid hF
  have HW := Lib.hid hW0.symm
  have Hb0 := Lib.hid hb0
  have Hz0 := Lib.hid hz0
  have HK : Hid (∀ W, Below (w.heap.size + 1) W0 W → W.heap[w.heap.size]? = some (.cells #[.int .i64 0, .int .i64 0] 25 (0, 0)) ∧ w.heap.size + 1 ≤ W.heap.size ∧ Below w.heap.size w W) := Lib.hid fun W h =>
    ⟨(h.block _ (by omega)).trans HF.out, by have := h.size; rw [Hz0.out] at this; exact this, Hb0.out.trans (h.mono (by omega))⟩
  clear hR h hF hW0 hb0 hz0 hwide
  go_enter Tryd.func21, Tryd.ntmps21
  go_wp2_with fail
  rw [HW.out]
  refine BundleFault_calls l _ _ (H.out.up Hb0.out Hb0.out.size) _ (fun w1 hb1 => ?_)
  rw [Hz0.out] at hb1
  obtain ⟨k2, k3, k4⟩ := HK.out _ hb1
  obtain ⟨d0, d1, y0, y1⟩ := cells_of_block k2
  have hp1 : w.heap.size < w1.heap.size := by omega
  have HF1 := Lib.hid k2
  have Hk4 := Lib.hid k4
  have Hb1 := Lib.hid hb1
  have hfz := fun h => (bunF_ok (l := l) h).1
  obtain ⟨⟨c, a⟩, hFa⟩ : ∃ F, F = bunF l := ⟨_, rfl⟩
  rw [← hFa] at hfz ⊢
  have Hfa := Lib.hid hFa
  simp only [] at hfz ⊢
  clear hb1 k2 k4 hFa HW
  by_cases hc : c = 0
  rotate_left
  · have hq : (c != 0) = true := by simp [hc]
    have hsb := pack_bad (l := l) (by rw [← Hfa.out]; exact hc)
    have hret := HR.out
    rw [hsb.1, hsb.2, ← Hfa.out] at hret
    have Hret := Lib.hid hret
    clear hfz hc hret hsb
    go_wp2
    go_region
    all_goals
      go_wp2
      refine bodyPost_ret (v := .tuple #[.slice none 0 0, .agg #[.int .i64 c, .int .i64 a]]) (res_slF (by rfl) (by rfl) (by rfl) (by repeat (first | with_reducible exact HF1.out | with_reducible refine blk_drew ?_ | with_reducible refine blk_drewN ?_ _ | with_reducible refine blk_alloc ?_ _ | with_reducible apply blk_set1 | with_reducible apply blk_set0 | with_reducible refine blk_other ?_ (by first | (simp; done) | omega | (simp; omega)) _))) rfl ?_
      have hb := Hk4.out
      refine Hret.out _ _ ?_ (buf_nil _ _)
      exact (by repeat (first | exact Below.refl _ _ | assumption | refine below_drewN ?_ _ | refine Below.drew ?_ | refine Below.setCell ?_ (by first | omega | (simp; done) | (simp; omega)) _ | refine Below.alloc ?_ (by first | omega | (simp; done) | (simp; omega)) _ | refine below_step (by assumption) ?_ (by first | omega | (simp; done) | (simp; omega))))
  · have hca := hfz hc
    simp only [Prod.mk.injEq] at hca
    obtain ⟨rfl, rfl⟩ := hca
    have hok := (bunF_ok (l := l) (by rw [← Hfa.out])).2
    have Hok := Lib.hid hok
    have HA : Hid (∀ W, Below w1.heap.size w1 W → rpObject.SL W W.heap.size l (.slice A1 l.length n1)) := Lib.hid fun W h => by
      have hb := Hk4.out.trans (h.mono (by omega))
      exact H.out.up hb hb.size
    clear hfz hc hok
    go_wp2_with fail
    have hal : Below w1.heap.size w1 (w1.alloc (Obj.cells #[.int .i64 0, .int .i64 0] 25)) := (Below.refl _ _).alloc (Nat.le_refl _) _
    refine BundleBytes_calls l _ _ (HA.out _ hal) Hok.out Hwide.out _ (fun w2 v2 hb2 hbuf2 => ?_)
    have hz2 := hb2.size
    have hbel2 := Hb1.out.trans (hal.trans (hb2.mono (by simp)) |>.mono (by omega))
    obtain ⟨k2, k3, k4⟩ := HK.out _ hbel2
    obtain ⟨d0, d1, y0, y1⟩ := cells_of_block k2
    obtain ⟨A3, c3, rfl⟩ := hbuf2.slice
    have hq1 : w.heap.size < w2.heap.size := by omega
    have HF2 := Lib.hid k2
    have Hk2 := Lib.hid k4
    have Hbuf2 := Lib.hid (hbuf2.base (b' := w.heap.size + 1) (by simp; omega))
    obtain ⟨L, hL⟩ : ∃ L, L = packB l := ⟨_, rfl⟩
    rw [← hL] at Hbuf2 ⊢
    have HL := Lib.hid hL
    clear hb2 hbuf2 hbel2 k2 k4 hal hL
    by_cases hl : 90000 < L.length
    · have hli : (90000 : Int) < (L.length : Int) := by omega
      have hsb := pack_long Hfa.out.symm (by rw [← HL.out]; exact hl)
      have hr2 := HR.out
      rw [hsb.1, hsb.2] at hr2
      have Hr2 := Lib.hid hr2
      clear hl hr2 hsb
      go_wp2
      refine bodyPost_ret (v := .tuple #[.slice none 0 0, .agg #[.int .i64 10, .int .i64 0]]) (res_slF (by rfl) (by rfl) (by rfl) (by repeat (first | with_reducible exact HF2.out | with_reducible refine blk_drew ?_ | with_reducible refine blk_drewN ?_ _ | with_reducible refine blk_alloc ?_ _ | with_reducible apply blk_set1 | with_reducible apply blk_set0 | with_reducible refine blk_other ?_ (by first | (simp; done) | omega | (simp; omega)) _))) rfl ?_
      have hb := Hk2.out
      refine Hr2.out _ _ ?_ (buf_nil _ _)
      exact (by repeat (first | exact Below.refl _ _ | assumption | refine below_drewN ?_ _ | refine Below.drew ?_ | refine Below.setCell ?_ (by first | omega | (simp; done) | (simp; omega)) _ | refine Below.alloc ?_ (by first | omega | (simp; done) | (simp; omega)) _ | refine below_step (by assumption) ?_ (by first | omega | (simp; done) | (simp; omega))))
    · have hli : ¬ (90000 : Int) < (L.length : Int) := by omega
      have hsb := pack_fine Hfa.out.symm (by rw [← HL.out]; exact hl)
      have hr2 := HR.out
      rw [hsb.1, hsb.2, ← HL.out] at hr2
      have Hr2 := Lib.hid hr2
      clear hl hr2 hsb
      go_wp2
      refine bodyPost_ret (v := .tuple #[.slice A3 L.length c3, .agg #[.int .i64 0, .int .i64 0]]) (res_slF (by rfl) (by rfl) (by rfl) (by repeat (first | with_reducible exact HF2.out | with_reducible refine blk_drew ?_ | with_reducible refine blk_drewN ?_ _ | with_reducible refine blk_alloc ?_ _ | with_reducible apply blk_set1 | with_reducible apply blk_set0 | with_reducible refine blk_other ?_ (by first | (simp; done) | omega | (simp; omega)) _))) rfl ?_
      have hb := Hk2.out
      have hbb := ((Hbuf2.out.grew (Grew.of_grown (grown_setCell w2 ⟨w.heap.size, 0, none⟩ (.int .i64 0))) (fun k hk e => by have := (Hbuf2.out.lt k hk).1; have := Option.some.inj e; simp at this; omega)).grew (Grew.of_grown (grown_setCell _ ⟨w.heap.size, 1, none⟩ (.int .i64 0))) (fun k hk e => by have := (Hbuf2.out.lt k hk).1; have := Option.some.inj e; simp at this; omega)).base (b' := w.heap.size) (by omega)
      refine Hr2.out _ _ ?_ hbb
      exact (by repeat (first | exact Below.refl _ _ | assumption | refine below_drewN ?_ _ | refine Below.drew ?_ | refine Below.setCell ?_ (by first | omega | (simp; done) | (simp; omega)) _ | refine Below.alloc ?_ (by first | omega | (simp; done) | (simp; omega)) _ | refine below_step (by assumption) ?_ (by first | omega | (simp; done) | (simp; omega))))

set_option maxRecDepth 100000 in
set_option maxHeartbeats 4000000 in
theorem PackSays_calls (l : List Object) (v : Value) (w : World) (h : rpObject.SL w w.heap.size l v) (hwide : ∀ o ∈ l, Wide o) (hS : Shapes w) (R : Ending → World → Prop)
    (hR : ∀ w', Below w.heap.size w w' → R (.returned (.bool true)) w') :
    Calls Tryd.prog 6 #[v] w R := by
  have h0 := hS.1
  obtain ⟨A1, n1, rfl, hm1, hcap1, h⟩ := h.cases_
  have HS := Lib.hid hS
  have HR := Lib.hid hR
  have H := Lib.hid h
  have Hwide := Lib.hid hwide
  obtain ⟨F, hF⟩ : ∃ F, F = packF l := ⟨_, rfl⟩
  obtain ⟨L, hL⟩ : ∃ L, L = packO l := ⟨_, rfl⟩
  have HF := Lib.hid hF
  have HL := Lib.hid hL
  clear hS hR h hwide hF hL
  go_enter Tryd.func6, Tryd.ntmps6
  go_wp2_with fail
  refine Pack_calls l _ _ H.out Hwide.out HS.out _ (fun w1 u1 hb1 hu1 => ?_)
  rw [← HF.out]
  rw [← HL.out] at hu1
  obtain ⟨B1, m1, rfl⟩ := hu1.slice
  have hz1 := hb1.size
  have HU := Lib.hid hu1
  have Hb1 := Lib.hid hb1
  clear hu1 hb1
  go_wp2_with fail
  obtain ⟨W1, hW1⟩ : ∃ W1, W1 = w1.alloc (Obj.cells #[.int .i64 F.1, .int .i64 F.2] 25) := ⟨_, rfl⟩
  rw [← hW1]
  have hz2 : W1.heap.size = w1.heap.size + 1 := by subst hW1; simp
  have hV1 : W1.heap[w1.heap.size]? = some (.cells #[.int .i64 F.1, .int .i64 F.2] 25 (0, 0)) := by
    subst hW1
    exact heap_alloc_new _ _
  have hbw : Below w1.heap.size w1 W1 := by subst hW1; exact (by repeat (first | exact Below.refl _ _ | assumption | refine below_drewN ?_ _ | refine Below.drew ?_ | refine Below.setCell ?_ (by first | omega | (simp; done) | (simp; omega)) _ | refine Below.alloc ?_ (by first | omega | (simp; done) | (simp; omega)) _ | refine below_step (by assumption) ?_ (by first | omega | (simp; done) | (simp; omega))))
  have hbW : Below w.heap.size w W1 := Hb1.out.trans (hbw.mono Hb1.out.size)
  have HV1 := Lib.hid hV1
  have Hz2 := Lib.hid hz2
  have Hbw := Lib.hid hbw
  have HbW := Lib.hid hbW
  clear hW1 hV1 hz2 hbw hbW
  refine BundlePack_calls l _ _ (H.out.up HbW.out HbW.out.size) Hwide.out _ (fun w2 u2 hb2 hu2 => ?_)
  rw [← HF.out]
  rw [← HL.out] at hu2
  obtain ⟨B2, m2, rfl⟩ := hu2.slice
  have hz3 := hb2.size
  rw [Hz2.out] at hz3
  have hbA : Below w1.heap.size w1 w2 := Hbw.out.trans (hb2.mono (by rw [Hz2.out]; omega))
  obtain ⟨c0, c1⟩ := cells_blk ((hb2.block _ (by rw [Hz2.out]; omega)).trans HV1.out)
  have hz4 : w1.heap.size < w2.heap.size := by omega
  have hal : Below w2.heap.size w2 (w2.alloc (Obj.cells #[.int .i64 F.1, .int .i64 F.2] 25)) := (Below.refl _ _).alloc (Nat.le_refl _) _
  have k1 := conv_bytes (P := Tryd.prog) Tryd.underlying39 Tryd.underlying5 Tryd.underlying9 ((HU.out.SL (Nat.le_refl _)).up (B' := w2.heap.size + 1) (hbA.trans (hal.mono (by omega))) (by omega))
  have k2 := conv_bytes (P := Tryd.prog) Tryd.underlying39 Tryd.underlying5 Tryd.underlying9 ((hu2.SL (Nat.le_refl _)).up (B' := w2.heap.size + 1) hal (by omega))
  have hend := Lib.hid (Hb1.out.trans ((hbA.trans (hal.mono (by omega))).mono hz1))
  have hq : ∀ w, (binOp .eql 25 (.agg #[.int .i64 F.1, .int .i64 F.2]) (.agg #[.int .i64 F.1, .int .i64 F.2])).run Tryd.prog w = .ok (.bool true) w := fun w => by rw [eql_Fault]; simp
  clear hb2 hu2 hbA hal
  go_wp2
  exact HR.out _ hend.out
end Go.Proofs.YtfhnmbnniklmiaaDoor
