/- The law that each function is found in its bundle. -/
import Derived.Test.YtfhnmbnniklmiaaDoorBase
import Derived.Test.YtfhnmbnniklmiaaDoorRows
import Derived.IntWalk
import Derived.Outline
import Derived.Deep.CutBlock
import Derived.Deep.DeepCutAuto
import Derived.Test.YtfhnmbnniklmiaaDoorKb1
import Derived.Test.YtfhnmbnniklmiaaDoorBunE
namespace Go.Proofs.YtfhnmbnniklmiaaDoor
open Go.RowKit
set_option linter.unusedSimpArgs false
set_option linter.unusedVariables false

theorem kit_find_none {raw : List (List Int)} (hr : ∀ l ∈ raw, ∀ x ∈ l, I64 x) : findF (packB (kitL raw)) nobodyB = (6, 0) ∧ findI (packB (kitL raw)) nobodyB = 0 := by
  obtain ⟨_, _, h3⟩ := kit_pack hr
  obtain ⟨h4, h5⟩ := openF_some h3
  have h6 := kit_none raw
  simp [findF, findI, h4, h5, h6]
theorem kit_find {raw : List (List Int)} (hr : ∀ l ∈ raw, ∀ x ∈ l, I64 x) {k : Nat} {s : Section} (hs : (objOf raw 6 true).sections[k]? = some s) : findF (packB (kitL raw)) s.name = (0, 0) ∧ findI (packB (kitL raw)) s.name = (k : Int) := by
  obtain ⟨_, _, h3⟩ := kit_pack hr
  obtain ⟨h4, h5⟩ := openF_some h3
  have ho : ownerL (kitL raw) s.name = (k : Int) := bunL_owner (objOf_ok (by decide) hr) hs
  have h6 : ¬ ((k : Int) < 0) := by omega
  simp only [findF, findI, h4, h5, ho]
  simp only [ne_eq, not_true_eq_false, if_false, if_neg h6, and_self]

set_option maxRecDepth 100000 in
set_option maxHeartbeats 4000000 in
theorem Found_calls (raw : List (List Int)) (v : Value) (n : Int) (w : World) (h : rpInt.slice.SL w w.heap.size raw v) (hraw : ∀ l ∈ raw, ∀ x ∈ l, I64 x) (hn : I64 n) (hS : Shapes w) (R : Ending → World → Prop)
    (hR : ∀ w', Below w.heap.size w w' → R (.returned (.bool true)) w') :
    Calls Tryd.prog 11 #[v, .int .i64 n] w R := by
  have h0 := hS.1
  obtain ⟨A, c, rfl, hm, hcap, h⟩ := h.cases_
  have HR := Lib.hid hR
  have H := Lib.hid h
  have Hraw := Lib.hid hraw
  have HSh := Lib.hid hS
  obtain ⟨k1, k2, k3⟩ := kit_pack hraw
  obtain ⟨k4, k5⟩ := kit_find_none hraw
  have hwide : ∀ o ∈ kitL raw, Wide o := bunL_wide (objOf_wide raw 6 true) _
  have hkl : (kitL raw).length = (objOf raw 6 true).sections.length := bunL_len _ _
  have hk6 := kit_secs raw
  obtain ⟨l, hl⟩ : ∃ l, l = kitL raw := ⟨_, rfl⟩
  rw [← hl] at k1 k2 k3 k4 k5 hwide hkl
  have K1 := Lib.hid k1
  have K2 := Lib.hid k2
  have K4 := Lib.hid k4
  have K5 := Lib.hid k5
  have Hwide := Lib.hid hwide
  have Hkl := Lib.hid hkl
  have Hl := Lib.hid hl
  have hl6 : l.length ≤ 6 := by omega
  clear hR h hraw hS k1 k2 k3 k4 k5 hwide hkl hl
  go_enter Tryd.func11, Tryd.ntmps11
  go_wp2_with fail
  refine bundled_calls raw _ _ H.out Hraw.out _ (fun w1 v1 hb1 hs1 => ?_)
  rw [← Hl.out] at hs1
  obtain ⟨A1, c1, rfl, _, _, hs1⟩ := hs1.cases_
  have Hb1 := Lib.hid hb1
  have Hs1 := Lib.hid hs1
  clear hb1 hs1
  go_wp2_with fail
  refine Pack_calls l _ _ Hs1.out Hwide.out (HSh.out.up Hb1.out h0) _ (fun w2 v2 hb2 hbuf => ?_)
  rw [K1.out]
  rw [K2.out] at hbuf
  obtain ⟨A2, c2, rfl⟩ := hbuf.slice
  obtain ⟨W2, hW2⟩ : ∃ W2, W2 = w2.alloc (Obj.cells #[.int .i64 0, .int .i64 0] 25) := ⟨_, rfl⟩
  have hF2 : W2.heap[w2.heap.size]? = some (.cells #[.int .i64 0, .int .i64 0] 25 (0, 0)) := by subst hW2; exact heap_alloc_new _ _
  have hbw2 : Below w2.heap.size w2 W2 := by subst hW2; exact bl0
  have hb12 : Below w1.heap.size w1 W2 := hb2.trans (hbw2.mono hb2.size)
  have Hb12 := Lib.hid hb12
  have HB2 := Lib.hid ((hbuf.SL (Nat.le_refl _)).up hbw2 hbw2.size)
  have HF2 := Lib.hid hF2
  have hl2 := blk_lt hF2
  have Hbw2 := Lib.hid (Hb1.out.trans (hb12.mono Hb1.out.size))
  have HW2 := Lib.hid hW2.symm
  clear hb2 hbuf hW2 hF2 hbw2 hb12
  go_upto_region 3 with fail
  rw [HW2.out]
  go_wp2_with fail
  refine Find_calls _ (packB l) nobodyB _ HB2.out (HSh.out.up Hbw2.out h0) _ (fun w3 hb3 => ?_)
  rw [K4.out, K5.out]
  obtain ⟨W3, hW3⟩ : ∃ W3, W3 = w3.alloc (Obj.cells #[.int .i64 6, .int .i64 0] 25) := ⟨_, rfl⟩
  have hF3 : W3.heap[w3.heap.size]? = some (.cells #[.int .i64 6, .int .i64 0] 25 (0, 0)) := by subst hW3; exact heap_alloc_new _ _
  have hbw3 : Below w3.heap.size w3 W3 := by subst hW3; exact bl0
  have hb23 : Below W2.heap.size W2 W3 := hb3.trans (hbw3.mono hb3.size)
  obtain ⟨c0, c1'⟩ := cells_blk ((hb23.block _ hl2).trans HF2.out)
  obtain ⟨e0, e1⟩ := cells_blk hF3
  have hl3 := blk_lt hF3
  have hz23 := hb23.size
  have hl23 : w2.heap.size < W3.heap.size := by omega
  have Hb23 := Lib.hid hb23
  have Hend := Lib.hid (Hbw2.out.trans (hb23.mono Hbw2.out.size))
  have HB3 := Lib.hid (HB2.out.up hb23 hb23.size)
  have HL3 := Lib.hid ((Hs1.out.up Hb12.out Hb12.out.size).up hb23 hb23.size)
  have HW3 := Lib.hid hW3.symm
  clear hb3 hW3 hF3 hbw3 hb23
  go_upto_region 4 with fail
  rw [HW3.out]
  by_cases hz : l.length = 0
  · have hz0 : ((l.length : Int) == 0) = true := by simp [hz]
    clear hz
    go_wp2_with fail
    refine bundleSure_calls _ (HSh.out.up Hend.out h0) _ (fun w5 hb5 => ?_)
    have hfin := Lib.hid (HR.out w5 (Hend.out.trans (hb5.mono Hend.out.size)))
    clear hb5
    go_wp2
    exact hfin.out
  · have hz0 : ((l.length : Int) == 0) = false := by simp [hz]
    have hpos : (0 : Int) < (l.length : Int) := by omega
    obtain ⟨k, hk⟩ : ∃ k : Nat, n % (l.length : Int) = (k : Int) := ⟨(n % (l.length : Int)).toNat, by have := Int.emod_nonneg n (show (l.length : Int) ≠ 0 by omega); omega⟩
    have hkl : k < l.length := by have := Int.emod_lt_of_pos n hpos; omega
    have hks : k < (objOf raw 6 true).sections.length := by rw [← Hkl.out]; exact hkl
    obtain ⟨s, hs⟩ : ∃ s, (objOf raw 6 true).sections[k]? = some s := ⟨_, List.getElem?_eq_getElem hks⟩
    have hfd := kit_find Hraw.out hs
    rw [← Hl.out] at hfd
    have Hfd := Lib.hid hfd
    have Hk := Lib.hid hk
    obtain ⟨b, off, o, v1, v2, rfl, hb, e, _, h2, r0, r1⟩ := HL3.out.object_at hkl
    have ho : o = segO (objOf raw 6 true) k (k + 1) := by
      rw [Hl.out] at e
      exact (bunL_get e).2
    have hsec : o.sections = [s] := by rw [ho]; exact seg_one hs
    rw [hsec] at h2
    obtain ⟨A4, c4, rfl, _, _, h2⟩ := h2.cases_
    obtain ⟨b4, o4, s', u1, u2, rfl, hb4, e4, _, _, q0, _, _⟩ := h2.section_at (k := 0) (by simp)
    have hss : s' = s := by simpa using e4.symm
    subst hss
    rw [Nat.zero_mul, Nat.add_zero] at q0
    have i0 : (0 : Int) ≤ (k : Int) := Int.natCast_nonneg _
    have i1 : (k : Int) < (l.length : Int) := by omega
    clear hz e ho hsec h2 e4 hs hfd hk
    go_wp2_with fail
    refine Picked_calls n (l.length : Int) hpos (by omega) hn _ _ ?_
    rw [Hk.out]
    go_wp2_with fail
    refine Find_calls _ (packB l) s'.name _ HB3.out (HSh.out.up Hend.out h0) _ (fun w5 hb5 => ?_)
    rw [Hfd.out.1, Hfd.out.2]
    have Hfin : Hid (∀ W, Below w5.heap.size w5 W → R (.returned (.bool true)) W) := Lib.hid fun W hW => HR.out W (Hend.out.trans ((hb5.trans (hW.mono hb5.size)).mono Hend.out.size))
    clear hb5
    go_wp2
    exact Hfin.out _ ((Below.refl _ _).alloc (Nat.le_refl _) _)
end Go.Proofs.YtfhnmbnniklmiaaDoor
