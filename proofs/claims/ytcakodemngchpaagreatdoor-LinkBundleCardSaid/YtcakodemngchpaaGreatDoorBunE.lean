/- bundle.has: which object has a function; bundle.Find, the document's BundleFind. bundle.Find. (printed by genbun14.py) -/
import Derived.Test.YtcakodemngchpaaGreatDoorBase
import Derived.Test.YtcakodemngchpaaGreatDoorRows
import Derived.IntWalk
import Derived.Deep.LoopGhost
import Derived.Outline
import Derived.Test.YtcakodemngchpaaGreatDoorLinkW
import Derived.Test.YtcakodemngchpaaGreatDoorPlainA
import Derived.Test.YtcakodemngchpaaGreatDoorBunC
/- bundle.has: which object has a function; bundle.Find, the document's BundleFind. -/
namespace Go.Proofs.YtcakodemngchpaaGreatDoor
open Go.RowKit
set_option linter.unusedSimpArgs false
set_option linter.unusedVariables false

set_option maxHeartbeats 1000000 in
theorem closSH_calls (n : ByteArray) (z v : Value) (nm : ByteArray) (M : Nat) (w : World) (hM : M < w.heap.size) (hc : w.cell? ⟨M, 0, none⟩ = some (.string nm)) (R : Ending → World → Prop)
    (hR : ∀ w', Below w.heap.size w w' → R (.returned (.bool (decide (n = nm)))) w') :
    Calls Tryz.prog 40 #[.agg #[.string n, z, v], .pointer (some ⟨M, 0, none⟩)] w R := by
  have HR := Lib.hid hR
  clear hR
  go_enter Tryz.func40, Tryz.ntmps40
  go_wp2
  rw [name_eq]
  exact HR.out _ bl0
set_option maxHeartbeats 1000000 in
theorem indexSH_calls (v : Value) (xs : List Section) (nm : ByteArray) (M : Nat) (w : World) (h : rpSection.SL w w.heap.size xs v) (hc : w.cell? ⟨M, 0, none⟩ = some (.string nm)) (R : Ending → World → Prop)
    (hR : ∀ w' r, Below w.heap.size w w' → (decide ((0 : Int) ≤ r) = hasS xs nm) → R (.returned (.int .i64 r)) w') :
    Calls Tryz.prog 72 #[v, .func (.func 40) #[] #[.pointer (some ⟨M, 0, none⟩)]] w R := by
  have hM : M < w.heap.size := World.block_lt_of_cell? w _ hc
  obtain ⟨A, c, rfl, hm, hcap, hs⟩ := h.cases_
  have Hs := Lib.hid hs
  have HR := Lib.hid hR
  have Hc := Lib.hid hc
  clear hR h hs hc
  go_enter Tryz.func72, Tryz.ntmps72
  go_wp2
  go_loopg [5, 8] xs.length (fun g j i wr => ∃ k : Nat, k ≤ xs.length ∧ g = xs.length - k ∧ i = .int .i64 k ∧ hasS (xs.take k) nm = false ∧ Below w.heap.size w wr)
  case atStart => exact ⟨0, Nat.zero_le _, rfl, rfl, rfl, Below.refl _ _⟩
  case round =>
    obtain ⟨k, hk, rfl, rfl, ht, hbel⟩ := hrel
    have Ht := Lib.hid ht
    have Hb := Lib.hid hbel
    have hz := hbel.size
    clear ht
    by_cases hlt : k < xs.length
    · obtain ⟨b, off, g, v1, v2, rfl, hb, e, h1, h2, q0, q1, q2⟩ := Hs.out.section_at hlt
      have p0 := (hbel.cell (p := ⟨b, off + k * 3, none⟩) hb).trans q0
      have p1 := (hbel.cell (p := ⟨b, off + k * 3 + 1, none⟩) hb).trans q1
      have p2 := (hbel.cell (p := ⟨b, off + k * 3 + 2, none⟩) hb).trans q2
      have pm := Lib.hid ((hbel.cell (p := ⟨M, 0, none⟩) hM).trans Hc.out)
      have Hst : Hid (hasS (xs.take (k + 1)) nm = decide (g.name = nm)) := Lib.hid (by
        have := any_step (fun g : Section => decide (g.name = nm)) e
        unfold hasS
        rw [this]
        have h0 := Ht.out
        unfold hasS at h0
        rw [h0, Bool.false_or])
      have i1 : (0 : Int) ≤ (k : Int) := Int.natCast_nonneg _
      have i2 : (k : Int) < (xs.length : Int) := by omega
      clear q0 q1 q2 e hbel
      go_wp2_with fail
      refine closSH_calls _ _ _ nm M _ (by omega) pm.out _ (fun w1 hb1 => ?_)
      have hb2 := Hb.out.trans (hb1.mono hz)
      have Hb2 := Lib.hid hb2
      clear hb1 hb2
      generalize hx : decide (g.name = nm) = x at *
      have Hx := Lib.hid hx
      clear hx
      cases x
      · go_wp2
        go_roundg (xs.length - (k + 1))
        case measure => omega
        case rel => exact ⟨k + 1, hlt, rfl, by go_num, Hst.out, Hb2.out⟩
      · have hfin := Lib.hid (HR.out)
        go_wp2
        refine hfin.out _ _ Hb2.out ?_
        rw [hasS, any_of_take _ Hst.out]
        exact decide_eq_true i1
    · obtain rfl : k = xs.length := by omega
      rw [List.take_length] at Ht
      have Hb2 := Lib.hid hbel
      clear hbel
      go_wp2
      refine HR.out _ _ Hb2.out ?_
      rw [Ht.out]
      rfl
set_option maxHeartbeats 1000000 in
theorem containsSH_calls (v : Value) (xs : List Section) (nm : ByteArray) (M : Nat) (w : World) (h : rpSection.SL w w.heap.size xs v) (hc : w.cell? ⟨M, 0, none⟩ = some (.string nm)) (R : Ending → World → Prop)
    (hR : ∀ w', Below w.heap.size w w' → R (.returned (.bool (hasS xs nm))) w') :
    Calls Tryz.prog 39 #[v, .func (.func 40) #[] #[.pointer (some ⟨M, 0, none⟩)]] w R := by
  have HR := Lib.hid hR
  clear hR
  go_enter Tryz.func39, Tryz.ntmps39
  go_wp2_with fail
  refine indexSH_calls v xs nm M _ h hc _ (fun w1 r hb1 hr => ?_)
  have Hf := Lib.hid (HR.out _ hb1)
  have Hr := Lib.hid hr
  clear hr hb1 h
  go_wp2
  rw [Hr.out]
  exact Hf.out

set_option maxHeartbeats 1000000 in
theorem has1_calls (o : Object) (u1 u2 : Value) (nm : ByteArray) (M : Nat) (w : World) (h : rpSection.SL w w.heap.size o.sections u2) (hc : w.cell? ⟨M, 0, none⟩ = some (.string nm)) (R : Ending → World → Prop)
    (hR : ∀ w', Below w.heap.size w w' → R (.returned (.bool (hasS o.sections nm))) w') :
    Calls Tryz.prog 38 #[.agg #[u1, u2], .pointer (some ⟨M, 0, none⟩)] w R := by
  obtain ⟨A, c, rfl, hm, hcap, h⟩ := h.cases_
  have hM : M < w.heap.size := World.block_lt_of_cell? w _ hc
  obtain ⟨W0, hW0⟩ : ∃ W0, W0 = w.alloc (Obj.cells #[u1, .slice A o.sections.length c] 40) := ⟨_, rfl⟩
  have hb0 : Below w.heap.size w W0 := by subst hW0; exact bl0
  have hV : W0.heap[w.heap.size]? = some (.cells #[u1, .slice A o.sections.length c] 40 (0, 0)) := by subst hW0; exact heap_alloc_new _ _
  obtain ⟨c0, c1⟩ := cells_blk hV
  have hlV := blk_lt hV
  have HR := Lib.hid hR
  have H := Lib.hid (h.up hb0 hb0.size)
  have Hc := Lib.hid ((hb0.cell (p := ⟨M, 0, none⟩) hM).trans hc)
  have Hb0 := Lib.hid hb0
  have HW := Lib.hid hW0.symm
  clear hR h hc hW0 hb0 hV
  go_enter Tryz.func38, Tryz.ntmps38
  go_upto_region 1 with fail
  rw [HW.out]
  go_wp2_with fail
  refine containsSH_calls _ o.sections nm M _ H.out Hc.out _ (fun w1 hb1 => ?_)
  have hfin := Lib.hid (HR.out w1 (Hb0.out.trans (hb1.mono Hb0.out.size)))
  clear hb1
  go_wp2
  exact hfin.out

set_option maxRecDepth 100000 in
set_option maxHeartbeats 2000000 in
theorem indexObj_calls (l : List Object) (v : Value) (nm : ByteArray) (M : Nat) (w : World) (h : rpObject.SL w w.heap.size l v) (hc : w.cell? ⟨M, 0, none⟩ = some (.string nm)) (R : Ending → World → Prop)
    (hR : ∀ w', Below w.heap.size w w' → R (.returned (.int .i64 (ownerL l nm))) w') :
    Calls Tryz.prog 37 #[v, .func (.func 38) #[] #[.pointer (some ⟨M, 0, none⟩)]] w R := by
  have hM : M < w.heap.size := World.block_lt_of_cell? w _ hc
  obtain ⟨A, c, rfl, hm, hcap, hs⟩ := h.cases_
  have Hs := Lib.hid hs
  have HR := Lib.hid hR
  have Hc := Lib.hid hc
  clear hR h hs hc
  go_enter Tryz.func37, Tryz.ntmps37
  go_wp2
  go_loopg [5, 8] l.length (fun g j i wr => ∃ k : Nat, k ≤ l.length ∧ g = l.length - k ∧ i = .int .i64 k ∧ (∀ (j : Nat) (y : Object), j < k → l[j]? = some y → hasS y.sections nm = false) ∧ Below w.heap.size w wr)
  case atStart => exact ⟨0, Nat.zero_le _, rfl, rfl, fun j y hj => absurd hj (Nat.not_lt_zero _), Below.refl _ _⟩
  case round =>
    obtain ⟨k, hk, rfl, rfl, ht, hbel⟩ := hrel
    have Ht := Lib.hid ht
    have Hb := Lib.hid hbel
    have hz := hbel.size
    clear ht
    by_cases hlt : k < l.length
    · obtain ⟨b, off, o, v1, v2, rfl, hb, e, h1, h2, q0, q1⟩ := Hs.out.object_at hlt
      have p0 := (hbel.cell (p := ⟨b, off + k * 2, none⟩) hb).trans q0
      have p1 := (hbel.cell (p := ⟨b, off + k * 2 + 1, none⟩) hb).trans q1
      have pm := Lib.hid ((hbel.cell (p := ⟨M, 0, none⟩) hM).trans Hc.out)
      have H2 := Lib.hid (h2.up hbel hbel.size)
      have E := Lib.hid e
      have i1 : (0 : Int) ≤ (k : Int) := Int.natCast_nonneg _
      have i2 : (k : Int) < (l.length : Int) := by omega
      clear q0 q1 e hbel h1 h2
      go_wp2_with fail
      refine has1_calls o _ _ nm M _ H2.out pm.out _ (fun w1 hb1 => ?_)
      have hb2 := Hb.out.trans (hb1.mono hz)
      have Hb2 := Lib.hid hb2
      clear hb1 hb2
      generalize hx : hasS o.sections nm = x at *
      have Hx := Lib.hid hx
      clear hx
      cases x
      · have Ht2 : Hid (∀ (j : Nat) (y : Object), j < k + 1 → l[j]? = some y → hasS y.sections nm = false) := Lib.hid fun j y hj hy => by
          rcases Nat.lt_or_ge j k with h | h
          · exact Ht.out j y h hy
          · obtain rfl : j = k := by omega
            obtain rfl : o = y := Option.some.inj (E.out.symm.trans hy)
            exact Hx.out
        go_wp2
        go_roundg (l.length - (k + 1))
        case measure => omega
        case rel => exact ⟨k + 1, hlt, rfl, by go_num, Ht2.out, Hb2.out⟩
      · have hfin := HR.out _ Hb2.out
        rw [owner_some E.out Hx.out Ht.out] at hfin
        have Hfin := Lib.hid hfin
        clear hfin
        go_wp2
        exact Hfin.out
    · obtain rfl : k = l.length := by omega
      have hfin := HR.out _ hbel
      rw [owner_none (fun j y hy => Ht.out j y (List.getElem?_eq_some_iff.1 hy).1 hy)] at hfin
      have Hfin := Lib.hid hfin
      clear hbel hfin
      go_wp2
      exact Hfin.out

set_option maxHeartbeats 1000000 in
theorem bunHas_calls (l : List Object) (v : Value) (nm : ByteArray) (w : World) (h : rpObject.SL w w.heap.size l v) (R : Ending → World → Prop)
    (hR : ∀ w', Below w.heap.size w w' → R (.returned (.int .i64 (ownerL l nm))) w') :
    Calls Tryz.prog 18 #[v, .string nm] w R := by
  obtain ⟨A, c, rfl, hm, hcap, h⟩ := h.cases_
  obtain ⟨W0, hW0⟩ : ∃ W0, W0 = w.alloc (Obj.cells #[.string nm] 9) := ⟨_, rfl⟩
  have hb0 : Below w.heap.size w W0 := by subst hW0; exact bl0
  have hV : W0.heap[w.heap.size]? = some (.cells #[.string nm] 9 (0, 0)) := by subst hW0; exact heap_alloc_new _ _
  have Hc := Lib.hid (one_blk hV).1
  have HR := Lib.hid hR
  have H := Lib.hid (h.up hb0 hb0.size)
  have Hb0 := Lib.hid hb0
  have HW := Lib.hid hW0.symm
  clear hR h hW0 hb0 hV
  go_enter Tryz.func18, Tryz.ntmps18
  go_upto_region 1 with fail
  rw [HW.out]
  go_wp2_with fail
  refine indexObj_calls l _ nm w.heap.size _ H.out Hc.out _ (fun w1 hb1 => ?_)
  have hfin := Lib.hid (HR.out w1 (Hb0.out.trans (hb1.mono Hb0.out.size)))
  clear hb1
  go_wp2
  exact hfin.out
end Go.Proofs.YtcakodemngchpaaGreatDoor

/- bundle.Find. (printed by genbun14.py) -/
namespace Go.Proofs.YtcakodemngchpaaGreatDoor
open Go.RowKit
set_option linter.unusedSimpArgs false
set_option linter.unusedVariables false

theorem openF_zero {b : List UInt8} (h : (openF b).1 = 0) : openF b = (0, 0) := by
  unfold openF at h ⊢
  split at h
  · simp at h
  · split at h
    · rename_i h1 h2
      rw [if_neg h1, if_pos h2]
    · simp at h

end Go.Proofs.YtcakodemngchpaaGreatDoor
