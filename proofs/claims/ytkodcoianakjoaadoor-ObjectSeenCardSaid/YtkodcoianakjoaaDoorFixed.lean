/- Bytes that are read are those of what is read: the walk. -/
import Derived.Test.YtkodcoianakjoaaDoorBase
import Derived.Test.YtkodcoianakjoaaDoorRows
import Derived.IntWalk
import Derived.Outline
import Derived.Deep.CutBlock
import Derived.Deep.DeepCutAuto
import Derived.Test.YtkodcoianakjoaaDoorSave1
import Derived.Test.YtkodcoianakjoaaDoorLoad
import Derived.Test.YtkodcoianakjoaaDoorFixP
namespace Go.Proofs.YtkodcoianakjoaaDoor
open Go.RowKit
set_option linter.unusedSimpArgs false
set_option linter.unusedVariables false

theorem empty_ok : objFault ⟨[], []⟩ = (0, 0) := by rfl
theorem empty_saved : (savedB ⟨[], []⟩).length = 7 := by rfl
theorem empty_saveF : saveF ⟨[], []⟩ = (0, 0) := by
  unfold saveF
  rw [if_neg (by rw [empty_ok]; simp), if_neg (by rw [empty_saved]; omega)]
theorem empty_saveB : (saveB ⟨[], []⟩).length = 7 := by
  unfold saveB
  rw [if_neg (by rw [empty_ok]; simp), if_neg (by rw [empty_saved]; omega)]
  exact empty_saved
/-- What loads is saved as it was. -/
theorem load_save {b : List UInt8} (h : (loadF b).1 = 0) : saveF (loadO b) = (0, 0) ∧ saveB (loadO b) = b ∧ Wide (loadO b) := by
  unfold loadF at h
  unfold loadO
  by_cases hl : 90000 < b.length
  · rw [if_pos hl] at h
    simp at h
  · rw [if_neg hl] at h ⊢
    cases ho : loadedL b with
    | none =>
      rw [ho] at h
      simp at h
    | some o =>
      rw [ho] at h
      simp only [] at h ⊢
      obtain ⟨h1, h2⟩ := loadedL_back ho
      rw [if_neg (by rw [h]; simp)]
      unfold saveF saveB
      rw [if_neg (by rw [h]; simp), if_neg (by rw [h1]; exact hl), if_neg (by rw [h]; simp), if_neg (by rw [h1]; exact hl)]
      exact ⟨rfl, h1, h2⟩
theorem load_none {b : List UInt8} (h : (loadF b).1 ≠ 0) : loadO b = ⟨[], []⟩ := by
  unfold loadF at h
  unfold loadO
  by_cases hl : 90000 < b.length
  · rw [if_pos hl]
  · rw [if_neg hl] at h ⊢
    cases ho : loadedL b with
    | none => rfl
    | some o =>
      rw [ho] at h
      simp only [] at h ⊢
      rw [if_pos h]

set_option maxRecDepth 100000 in
set_option maxHeartbeats 4000000 in
theorem Sure_calls (w : World) (hS : Shapes w) (R : Ending → World → Prop) (hR : ∀ w', Below w.heap.size w w' → R (.returned (.bool true)) w') :
    Calls Tryd.prog 22 #[] w R := by
  have HS := Lib.hid hS
  have HR := Lib.hid hR
  clear hS hR
  go_enter Tryd.func22, Tryd.ntmps22
  go_wp2_with fail
  refine Save_calls ⟨[], []⟩ _ _ _ (Rp.SL.nil _ _ _) (Rp.SL.nil _ _ _) (fun g hg => by cases hg) HS.out _ (fun w1 v1 hb1 hbuf => ?_)
  rw [empty_saveF]
  obtain ⟨A, c, rfl⟩ := hbuf.slice
  rw [empty_saveB]
  have Hr := Lib.hid hb1
  clear hb1 hbuf
  go_wp2
  have hb := Hr.out
  refine HR.out _ ?_
  have hz := hb.size
  exact (by repeat (first | exact Below.refl _ _ | assumption | refine below_drewN ?_ _ | refine Below.drew ?_ | refine Below.setCell ?_ (by first | omega | (simp; done) | (simp; omega)) _ | refine Below.alloc ?_ (by first | omega | (simp; done) | (simp; omega)) _ | refine below_step (by assumption) ?_ (by first | omega | (simp; done) | (simp; omega))))

set_option maxRecDepth 100000 in
set_option maxHeartbeats 4000000 in
theorem Fixed_calls (bs : List UInt8) (v : Value) (w : World) (h : rpByte.SL w w.heap.size bs v) (hS : Shapes w) (R : Ending → World → Prop)
    (hR : ∀ w', Below w.heap.size w w' → R (.returned (.bool true)) w') :
    Calls Tryd.prog 8 #[v] w R := by
  have h0 := hS.1
  obtain ⟨A1, n1, rfl, hm1, hcap1, h⟩ := h.cases_
  have HS := Lib.hid hS
  have HR := Lib.hid hR
  have H := Lib.hid h
  clear hS hR h
  go_enter Tryd.func8, Tryd.ntmps8
  go_wp2_with fail
  refine Load_calls _ bs _ H.out HS.out _ (fun w1 u1 u2 hb1 hu1 hu2 => ?_)
  have hn := load_none (b := bs)
  have hy := load_save (b := bs)
  generalize loadO bs = o at *
  obtain ⟨B1, m1, rfl, _, _, hu1⟩ := hu1.SL.cases_
  obtain ⟨B2, m2, rfl, _, _, hu2⟩ := hu2.SL.cases_
  obtain ⟨⟨c, x⟩, hF⟩ : ∃ F, F = loadF bs := ⟨_, rfl⟩
  rw [← hF] at hn hy ⊢
  simp only [] at hn hy ⊢
  clear hF
  have HX := Lib.hid hu1
  have HY := Lib.hid hu2
  have Hb1 := Lib.hid hb1
  have hz1 := hb1.size
  have HN := Lib.hid hn
  have HYs := Lib.hid hy
  clear hu1 hu2 hb1 hn hy
  obtain ⟨W1, hW1⟩ : ∃ W1, W1 = (w1.alloc (Obj.cells #[.slice B1 o.globals.length m1, .slice B2 o.sections.length m2] 25)).alloc (Obj.cells #[.int .i64 c, .int .i64 x] 27) := ⟨_, rfl⟩
  have hz2 : W1.heap.size = w1.heap.size + 2 := by subst hW1; simp
  have hV1 : W1.heap[w1.heap.size]? = some (.cells #[.slice B1 o.globals.length m1, .slice B2 o.sections.length m2] 25 (0, 0)) := by
    subst hW1
    exact blk_alloc (heap_alloc_new _ _) _
  have hV2 : W1.heap[w1.heap.size + 1]? = some (.cells #[.int .i64 c, .int .i64 x] 27 (0, 0)) := by
    subst hW1
    have := heap_alloc_new (w1.alloc (Obj.cells #[.slice B1 o.globals.length m1, .slice B2 o.sections.length m2] 25)) (Obj.cells #[.int .i64 c, .int .i64 x] 27)
    simpa using this
  have hbw : Below w1.heap.size w1 W1 := by subst hW1; exact (by repeat (first | exact Below.refl _ _ | assumption | refine below_drewN ?_ _ | refine Below.drew ?_ | refine Below.setCell ?_ (by first | omega | (simp; done) | (simp; omega)) _ | refine Below.alloc ?_ (by first | omega | (simp; done) | (simp; omega)) _ | refine below_step (by assumption) ?_ (by first | omega | (simp; done) | (simp; omega))))
  have hbW : Below w.heap.size w W1 := Hb1.out.trans (hbw.mono Hb1.out.size)
  have HV1 := Lib.hid hV1
  have HV2 := Lib.hid hV2
  have Hz2 := Lib.hid hz2
  have HbW := Lib.hid hbW
  have HXW := Lib.hid (HX.out.up hbw (Nat.le_refl _))
  have HYW := Lib.hid (HY.out.up hbw (Nat.le_refl _))
  have HW1 := Lib.hid hW1.symm
  clear hW1 hV1 hV2 hbw hbW
  by_cases hc : c = 0
  rotate_left
  · have ho := HN.out hc
    have hcb : (c != 0) = true := by simp [hc]
    have e1 : o.globals.length = 0 := by rw [ho]; rfl
    have e2 : o.sections.length = 0 := by rw [ho]; rfl
    have E1 := Lib.hid e1
    have E2 := Lib.hid e2
    clear hc HYs HN ho e1 e2
    go_wp2_with fail
    rw [HW1.out]
    refine Sure_calls _ (HS.out.up HbW.out h0) _ (fun w5 hb5 => ?_)
    have hz5 := hb5.size
    rw [Hz2.out] at hz5
    obtain ⟨q0, q1⟩ := cells_blk ((hb5.block _ (by rw [Hz2.out]; omega)).trans HV1.out)
    rw [E1.out] at q0
    rw [E2.out] at q1
    have hl5 : w1.heap.size < w5.heap.size := by omega
    have Hend := Lib.hid (HbW.out.trans (hb5.mono HbW.out.size))
    clear hb5 HW1
    go_wp2
    exact HR.out _ Hend.out
  · subst hc
    obtain ⟨k1, k2, k3⟩ := HYs.out rfl
    have K1 := Lib.hid k1
    have K2 := Lib.hid k2
    have K3 := Lib.hid k3
    clear k1 k2 k3 HYs HN
    obtain ⟨p0, p1⟩ := cells_blk HV1.out
    obtain ⟨d0, d1⟩ := cells_blk HV2.out
    have hl0 : w1.heap.size < W1.heap.size := by omega
    have hl1 : w1.heap.size + 1 < W1.heap.size := by omega
    go_upto_region 4 with fail
    rw [HW1.out]
    go_wp2_with fail
    refine Save_calls o _ _ _ (HXW.out.more (by omega)) (HYW.out.more (by omega)) K3.out (HS.out.up HbW.out h0) _ (fun w2 v2 hb2 hbuf => ?_)
    rw [K1.out]
    rw [K2.out] at hbuf
    obtain ⟨A3, c3, rfl⟩ := hbuf.slice
    have hz3 := hb2.size
    have Hbuf := Lib.hid hbuf
    obtain ⟨W2, hW2⟩ : ∃ W2, W2 = w2.alloc (Obj.cells #[.int .i64 0, .int .i64 0] 27) := ⟨_, rfl⟩
    have hz4 : W2.heap.size = w2.heap.size + 1 := by subst hW2; simp
    have hV3 : W2.heap[w2.heap.size]? = some (.cells #[.int .i64 0, .int .i64 0] 27 (0, 0)) := by subst hW2; exact heap_alloc_new _ _
    have hb3 : Below w2.heap.size w2 W2 := by subst hW2; exact (by repeat (first | exact Below.refl _ _ | assumption | refine below_drewN ?_ _ | refine Below.drew ?_ | refine Below.setCell ?_ (by first | omega | (simp; done) | (simp; omega)) _ | refine Below.alloc ?_ (by first | omega | (simp; done) | (simp; omega)) _ | refine below_step (by assumption) ?_ (by first | omega | (simp; done) | (simp; omega))))
    have Hb3 := Lib.hid hb3
    have HbW2 := Lib.hid (HbW.out.trans ((hb2.trans (hb3.mono hz3)).mono HbW.out.size))
    have HV3 := Lib.hid hV3
    have HW2 := Lib.hid hW2.symm
    clear hb2 hbuf hW2 hV3 hb3 p0 p1 d0 d1
    go_wp2_with fail
    rw [HW2.out]
    refine Sure_calls _ (HS.out.up HbW2.out h0) _ (fun w5 hb5 => ?_)
    have hz5 := hb5.size
    obtain ⟨q0, q1⟩ := cells_blk ((hb5.block _ (by omega)).trans HV3.out)
    have hl5 : w2.heap.size < w5.heap.size := by omega
    have hend := HbW2.out.trans (hb5.mono HbW2.out.size)
    have k1 := conv_bytes (P := Tryd.prog) Tryd.underlying32 Tryd.underlying5 Tryd.underlying9 (H.out.up hend hend.size)
    have hb35 := Hb3.out.trans (hb5.mono (by omega))
    have k2 := conv_bytes (P := Tryd.prog) Tryd.underlying32 Tryd.underlying5 Tryd.underlying9 ((Hbuf.out.SL (Nat.le_refl _)).up hb35 hb35.size)
    have Hend := Lib.hid hend
    clear hb5 hend hb35
    go_wp2
    exact HR.out _ Hend.out
end Go.Proofs.YtkodcoianakjoaaDoor
