/- bundled: the objects of the link's and the bundle's laws. -/
import Derived.Test.YtcakodemngchpaaGreatDoorBase
import Derived.Test.YtcakodemngchpaaGreatDoorRows
import Derived.IntWalk
import Derived.Outline
import Derived.Deep.LoopGhost
import Derived.Deep.CutBlock
import Derived.Deep.DeepCutAuto
import Derived.Deep.RegionHeld3
import Derived.Deep.RegionLaw
import Derived.Test.YtcakodemngchpaaGreatDoorKitPm
import Derived.Test.YtcakodemngchpaaGreatDoorKitY
namespace Go.Proofs.YtcakodemngchpaaGreatDoor
open Go.RowKit
set_option linter.unusedSimpArgs false
set_option linter.unusedVariables false

theorem info_ObjectK : (Tryz.prog.info? 40).map (fun i => (i.zero, i.size, i.bytes)) = some (some (.agg #[.slice none 0 0, .slice none 0 0]), 2, 48) := by kernel_rfl
theorem object_mkK {w : World} {B : Nat} {o : Object} {v1 v2 : Value} (h1 : rpGlobal.SL w B o.globals v1) (h2 : rpSection.SL w B o.sections v2) : rpObject.rep w B o [v1, v2] := ⟨[v1], [v2], rfl, ⟨v1, rfl, h1⟩, v2, rfl, h2⟩
theorem grown_of_drewK {w w' : World} {x : Option Nat} (h : w.drew.grownBy w' x) : w.grownBy w' x := ⟨h.os, h.tape, h.output, h.size, h.block⟩
theorem Rp.SL.part {α : Type} {r : Rp α} {w : World} {B : Nat} {xs : List α} {b off n c k : Nat} (h : r.SL w B xs (.slice (some ⟨b, off, none⟩) n c)) (hk : k < xs.length) : r.SL w B ((xs.take (k + 1)).drop k) (.slice (some ⟨b, off + k * r.size, none⟩) 1 (c - k)) := by
  have h1 := (h.take_ (k := k + 1) hk).drop_ (k := k) (by rw [List.length_take]; omega) (off + k * r.size) (fun _ => rfl)
  rwa [show k + 1 - k = 1 from by omega] at h1

set_option maxRecDepth 100000 in
set_option maxHeartbeats 4000000 in
theorem bundled_calls (raw : List (List Int)) (v : Value) (w : World) (h : rpInt.slice.SL w w.heap.size raw v) (hraw : ∀ l ∈ raw, ∀ x ∈ l, I64 x) (R : Ending → World → Prop)
    (hR : ∀ w' v', Below w.heap.size w w' → rpObject.SL w' w'.heap.size (kitL raw) v' → R (.returned v') w') :
    Calls Tryz.prog 4 #[v, .int .i64 6] w R := by
  obtain ⟨iO, hiO, zO0, zO1, zO2⟩ := info_parts info_ObjectK
  obtain ⟨A, c, rfl, hm, hcap, h⟩ := h.cases_
  have HR := Lib.hid hR
  have H := Lib.hid h
  have Hraw := Lib.hid hraw
  obtain ⟨o, ho⟩ : ∃ o, o = objOf raw 6 true := ⟨_, rfl⟩
  have Ho := Lib.hid ho
  have h6 : o.sections.length ≤ 6 := by rw [ho]; exact kit_secs raw
  have HkL : Hid (kitL raw = bunL o o.sections.length) := Lib.hid (by rw [ho]; rfl)
  clear hR h hraw ho
  go_enter Tryz.func4, Tryz.ntmps4
  go_wp2_with fail
  refine KitObject_calls raw _ 6 true _ H.out Hraw.out (by decide) _ (fun w1 u1 u2 hb1 hu1 hu2 => ?_)
  rw [← Ho.out] at hu1 hu2
  obtain ⟨A1, n1, rfl, _, _, hu1⟩ := hu1.cases_
  obtain ⟨A2, n2, rfl, _, hcap2, hu2⟩ := hu2.cases_
  obtain ⟨W1, hW1⟩ : ∃ W1, W1 = w1.alloc (Obj.cells #[.slice A1 o.globals.length n1, .slice A2 o.sections.length n2] 40) := ⟨_, rfl⟩
  have hbw : Below w1.heap.size w1 W1 := by subst hW1; exact bl0
  have hV : W1.heap[w1.heap.size]? = some (.cells #[.slice A1 o.globals.length n1, .slice A2 o.sections.length n2] 40 (0, 0)) := by subst hW1; exact heap_alloc_new _ _
  have Hb1 := Lib.hid (hb1.trans (hbw.mono hb1.size))
  have HG := Lib.hid (hu1.SL.up hbw hbw.size)
  have HS := Lib.hid (hu2.SL.up hbw hbw.size)
  have hlV := blk_lt hV
  have HSS : Hid (∀ W, Below W1.heap.size W1 W → (fun W : World => W.cell? ⟨w1.heap.size, 0, none⟩ = some (.slice A1 o.globals.length n1) ∧ W.cell? ⟨w1.heap.size, 1, none⟩ = some (.slice A2 o.sections.length n2)) W) := Lib.hid fun W h => cells_blk ((h.block _ hlV).trans hV)
  have HW1 := Lib.hid hW1.symm
  clear hu1 hu2 hb1 hW1 hbw hV
  go_upto_region 3 with fail
  rw [HW1.out]
  go_wp2_with fail
  go_loopg [6, 7] o.sections.length (fun gh s6 s7 wr => ∃ (k : Nat) (css : List (List Value)), k ≤ o.sections.length ∧ gh = o.sections.length - k ∧ s7 = .int .i64 (k : Int) ∧ Built rpObject W1.heap.size 40 (fun _ => False) wr s6 (bunL o k) css ∧ Below W1.heap.size W1 wr)
  case atStart => exact ⟨0, [], Nat.zero_le _, rfl, rfl, Built.nil _ _ _ _ _ (fun _ h => h.elim), Below.refl _ _⟩
  case round =>
    obtain ⟨k, css, hk, rfl, rfl, hbu, hbel⟩ := hrel
    have Hbu := Lib.hid hbu
    have Hbel := Lib.hid hbel
    have hz := hbel.size
    have k0 : (0 : Int) ≤ (k : Int) := Int.natCast_nonneg _
    obtain ⟨c0, c1⟩ := HSS.out wr hbel
    obtain ⟨A6, n6, hs6⟩ := own_slice hbu.own
    subst hs6
    have Hlen := Lib.hid (bunL_len o k)
    clear hbu hbel
    by_cases hlt : k < o.sections.length
    · obtain ⟨b, off, s, v1, v2, rfl, hb, e, _, _, _, _, _⟩ := HS.out.section_at hlt
      have k1 : (k : Int) < (o.sections.length : Int) := by omega
      have k2 : (k : Int) ≤ (n2 : Int) := by omega
      have k3 : (k : Int) + 1 ≤ (n2 : Int) := by omega
      have k4 : IntKind.i64.wrap ((k : Int) + 1) = (k : Int) + 1 := IntWalk.i64_in _ (by omega)
      have k5 : ((k : Int) + 1).toNat = k + 1 := by omega
      have k6 : (k : Int) ≤ (k : Int) + 1 := by omega
      have k7 : (0 : Int) ≤ (k : Int) + 1 := by omega
      have k8 : k + 1 - k = 1 := by omega
      have k9 : ¬ (n2 = k) := by omega
      have hpart := HS.out.part hlt
      rw [show rpSection.size = 3 from rfl] at hpart
      have Hpart := Lib.hid hpart
      have HS0 := HSS.out wr.drew Hbel.out.drew
      have HSa := HSS.out wr Hbel.out
      have HBu0 := Lib.hid (Hbu.out.alloc (Obj.cells #[.slice A1 o.globals.length n1, .slice (some ⟨b, off + k * 3, none⟩) 1 (n2 - k)] 40))
      have HBo0 : Hid ((wr.alloc (Obj.cells #[.slice A1 o.globals.length n1, .slice (some ⟨b, off + k * 3, none⟩) 1 (n2 - k)] 40)).ownsRow W1.heap.size 40 2 (.slice A6 (bunL o k).length n6) (bunL o k).length css.flatten) := Lib.hid HBu0.out.own
      have HBod : Hid ((wr.alloc (Obj.cells #[.slice A1 o.globals.length n1, .slice (some ⟨b, off + k * 3, none⟩) 1 (n2 - k)] 40)).drew.ownsRow W1.heap.size 40 2 (.slice A6 (bunL o k).length n6) (bunL o k).length css.flatten) := Lib.hid HBu0.out.drew.own
      have HX0 := Lib.hid (heap_alloc_new wr (Obj.cells #[.slice A1 o.globals.length n1, .slice (some ⟨b, off + k * 3, none⟩) 1 (n2 - k)] 40))
      have hbl : (bunL o k).length ≤ 6 := by rw [Hlen.out]; omega
      have Hap : Hid (Apart rpObject (fun _ => False) (wr.alloc (Obj.cells #[.slice A1 o.globals.length n1, .slice (some ⟨b, off + k * 3, none⟩) 1 (n2 - k)] 40)) (.slice A6 (bunL o k).length n6) (segO o k (k + 1)) [.slice A1 o.globals.length n1, .slice (some ⟨b, off + k * 3, none⟩) 1 (n2 - k)]) := Lib.hid (Apart.of_old (w0 := W1) (B := W1.heap.size) (object_mkK HG.out Hpart.out) (by simp; omega) (Hbel.out.alloc Hbel.out.size _) (fun _ h => h.elim) (fun g hg => (Hbu.out.own.lt g hg).1))
      clear e hpart c0 c1
      go_upto_region 6 with fail
      first | go_region_held3 (fun W : World => W.cell? ⟨w1.heap.size, 0, none⟩ = some (.slice A1 o.globals.length n1) ∧ W.cell? ⟨w1.heap.size, 1, none⟩ = some (.slice (some ⟨b, off, none⟩) o.sections.length n2)) (first | with_reducible exact HS0 | with_reducible exact HSa | with_reducible exact HSS.out _ (Hbel.out.alloc hz _) | with_reducible exact HSS.out _ (Hbel.out.alloc hz _).drew | with_reducible exact HS9) (first
        | (refine step_append_lies _ (by rfl) (.tmp 18) (.tmp 28) _ (by rfl) W1.heap.size 40 iO _ 2 48 Tryz.underlying23 hiO zO0 zO1 zO2 rfl (by decide) (.slice A6 (bunL o k).length n6) (bunL o k).length css.flatten (by simp [Act.eval, Act.put]) (by first | with_reducible exact HBo0.out | with_reducible exact HBod.out) ⟨wr.heap.size, 0, none⟩ 1 1 [.slice A1 o.globals.length n1, .slice (some ⟨b, off + k * 3, none⟩) 1 (n2 - k)] (by simp [Act.eval, Act.put]) (by rfl) (World.news_of_block (cs := #[.slice A1 o.globals.length n1, .slice (some ⟨b, off + k * 3, none⟩) 1 (n2 - k)]) (t := 40) (fr := (0, 0)) (by exact HX0.out)) (by simp [Value.oneCell']) (by omega) (by unfold maxLen; omega) (by omega) (by first | (simp; omega) | exact Nat.le_trans hz (by simp)) (wr.heap.size + 1) (by first | (simp; done) | rfl) ?_; intro gb cap w9 hown9 hgrow9 hat9 hlt9; have hgr9 : (wr.alloc (Obj.cells #[.slice A1 o.globals.length n1, .slice (some ⟨b, off + k * 3, none⟩) 1 (n2 - k)] 40)).grownBy w9 (Value.slice A6 (bunL o k).length n6).ownBlock := (by first | with_reducible exact hgrow9 | with_reducible exact grown_of_drewK hgrow9); have hbel9 : Below W1.heap.size W1 w9 := (Hbel.out.alloc hz _).trans ((Grew.of_grown hgr9).below (B := W1.heap.size) (fun j hj e => by have := (Hbu.out.own.lt j e).1; omega) (by simp; omega)); have HS9 := HSS.out w9 hbel9; have Hbel9 := Lib.hid hbel9; have HB9 := Lib.hid (HBu0.out.push hown9 (by rw [Hlen.out]) hgr9 (by simpa using hat9) Hap.out))) | fail
      all_goals
        go_wp2
        go_roundg (o.sections.length - (k + 1))
        case measure => omega
        case rel => exact ⟨k + 1, _, hlt, rfl, by go_num, by rw [bunL_snoc]; exact HB9.out, Hbel9.out⟩
    · obtain rfl : k = o.sections.length := by omega
      have k1 : ¬ (o.sections.length : Int) < (o.sections.length : Int) := by omega
      have hfin := HR.out wr _ (Hb1.out.trans (Hbel.out.mono Hb1.out.size)) (by rw [HkL.out]; exact Hbu.out.SL (Nat.le_refl _))
      have Hfin := Lib.hid hfin
      clear hfin
      go_wp2
      exact Hfin.out

end Go.Proofs.YtcakodemngchpaaGreatDoor
