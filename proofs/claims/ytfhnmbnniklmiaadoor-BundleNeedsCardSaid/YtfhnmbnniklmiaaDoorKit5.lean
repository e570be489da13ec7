/- R.CodeBytes: the bytes of instructions. -/
import Derived.Test.YtfhnmbnniklmiaaDoorBase
import Derived.Test.YtfhnmbnniklmiaaDoorRows
import Derived.IntWalk
import Derived.Deep.LoopGhost
import Derived.Deep.CutBlock
import Derived.Deep.DeepCutAuto
import Derived.Outline
import Derived.Test.YtfhnmbnniklmiaaDoorKit4
namespace Go.Proofs.YtfhnmbnniklmiaaDoor
open Go.RowKit
set_option linter.unusedSimpArgs false
set_option linter.unusedVariables false

theorem codeB_len (l : List Mac) : (codeB l).length ≤ 14 * l.length := by
  induction l with
  | nil => simp [codeB]
  | cons m l ih =>
    have := macB_len m
    unfold codeB at *
    rw [List.flatMap_cons, List.length_append, List.length_cons]
    omega
theorem codeB_step {l : List Mac} {k : Nat} {m : Mac} (h : l[k]? = some m) : codeB (l.take (k + 1)) = codeB (l.take k) ++ macB m := by
  unfold codeB
  rw [take_snoc h, List.flatMap_append]
  simp

set_option maxRecDepth 100000 in
set_option maxHeartbeats 4000000 in
theorem CodeBytes_calls (l : List Mac) (v : Value) (w : World) (h : rpMac.SL w w.heap.size l v) (hg : ∀ m ∈ l, GoodMac m) (hlen : l.length ≤ 100000) (R : Ending → World → Prop)
    (hR : ∀ w' v', Below w.heap.size w w' → Buf w' w.heap.size v' (codeB l) → R (.returned v') w') :
    Calls Tryd.prog 43 #[v] w R := by
  obtain ⟨A, c, rfl, hm, hcap, h⟩ := h.cases_
  have HR := Lib.hid hR
  have H := Lib.hid h
  have Hg := Lib.hid hg
  clear hR h hg
  go_enter Tryd.func43, Tryd.ntmps43
  go_wp2_with fail
  go_loopg [3, 4] l.length (fun gh s3 i wr => ∃ k : Nat, k ≤ l.length ∧ gh = l.length - k ∧ i = .int .i64 (k : Int) ∧ OB w.heap.size s3 (codeB (l.take k)) w wr)
  case atStart => exact ⟨0, Nat.zero_le _, rfl, rfl, ⟨.inl (World.ownsRow_nil _ _ _ _), Below.refl _ _, Nat.le_refl _⟩⟩
  case round =>
    obtain ⟨k, hk, rfl, rfl, hob⟩ := hrel
    obtain ⟨A3, c3, rfl⟩ := hob.buf.slice
    have Hob := Lib.hid hob
    have hbw := hob.bel
    have hcl := codeB_len (l.take k)
    rw [List.length_take] at hcl
    have i1 : (0 : Int) ≤ (k : Int) := Int.natCast_nonneg _
    clear hob
    by_cases hlt : k < l.length
    · obtain ⟨b, off, cs, rfl, hb, hr, hcs⟩ := H.out.at_ (List.getElem?_eq_getElem hlt)
      have e : l[k]? = some l[k] := List.getElem?_eq_getElem hlt
      have hmg := Hg.out _ (List.getElem_mem hlt)
      have hst := Lib.hid (codeB_step e)
      generalize l[k] = m at *
      rw [rpMac_rep] at hr
      subst hr
      have p0 := (hbw.cell (p := ⟨b, off + k * 5, none⟩) hb).trans (hcs 0 _ rfl)
      have p1 := (hbw.cell (p := ⟨b, off + k * 5 + 1, none⟩) hb).trans (hcs 1 _ rfl)
      have p2 := (hbw.cell (p := ⟨b, off + k * 5 + 2, none⟩) hb).trans (hcs 2 _ rfl)
      have p3 := (hbw.cell (p := ⟨b, off + k * 5 + 3, none⟩) hb).trans (hcs 3 _ rfl)
      have p4 := (hbw.cell (p := ⟨b, off + k * 5 + 4, none⟩) hb).trans (hcs 4 _ rfl)
      have i2 : (k : Int) < (l.length : Int) := by omega
      have hml := macB_len m
      clear hcs e hbw
      go_wp2_with fail
      refine MacBytes_calls m hmg _ _ (fun w5 v5 hb5 hbuf5 => ?_)
      obtain ⟨A5, c5, rfl⟩ := hbuf5.slice
      have hob5 := Lib.hid (Hob.out.below hb5)
      have Hs5 := Lib.hid (hbuf5.SL (Nat.le_refl _))
      have hbase := hob5.out.base
      clear hb5 hbuf5 p0 p1 p2 p3 p4
      go_wp2_with (at_builtin; refine wpList_app_buf _ rfl _ _ _ rfl Tryd.underlying39 rfl hob5.out.buf rfl Hs5.out (by omega) hbase ?_)
      intro v6 w6 hb6 hg6 hc6
      have hob6 := Lib.hid (hob5.out.app hb6 hg6)
      clear hb6 hg6 hc6
      go_wp2
      go_roundg (l.length - (k + 1))
      case measure => omega
      case rel => exact ⟨k + 1, hlt, rfl, by go_num, by rw [hst.out]; exact hob6.out⟩
    · obtain rfl : k = l.length := by omega
      have hfin := Lib.hid (HR.out _ (.slice A3 (codeB (l.take l.length)).length c3) hbw (by have := Hob.out.buf; rw [List.take_length] at this ⊢; exact this))
      clear hbw
      go_wp2
      exact hfin.out
end Go.Proofs.YtfhnmbnniklmiaaDoor
