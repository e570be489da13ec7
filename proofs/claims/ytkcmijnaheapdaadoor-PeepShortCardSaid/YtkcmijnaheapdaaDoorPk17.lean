/- Package peep: rules till none fits. -/
import Derived.Test.YtkcmijnaheapdaaDoorBase
import Derived.Test.YtkcmijnaheapdaaDoorRows
import Derived.IntWalk
import Derived.Outline
import Derived.Deep.LoopGhost
import Derived.Deep.RegionLaw
import Derived.Test.YtkcmijnaheapdaaDoorPk16
import Derived.Test.YtkcmijnaheapdaaDoorReadC
namespace Go.Proofs.YtkcmijnaheapdaaDoor
open Go.RowKit
set_option linter.unusedSimpArgs false
set_option linter.unusedVariables false

set_option maxRecDepth 100000 in
set_option maxHeartbeats 2000000 in
theorem peepOf_calls (v : Value) (l : List Mac) (hok : MacsOk l) (w : World) (h : rpMac.SL w w.heap.size l v) (hS : Shapes w) (R : Ending → World → Prop)
    (hR : ∀ w' v', Below w.heap.size w w' → w'.ownsRow w.heap.size 44 5 v' (peepL l).length ((peepL l).flatMap Mac.cells) → R (.returned v') w') :
    Calls Tryd.prog 50 #[v] w R := by
  have h0 := hS.1
  have hfew := hok.few
  have HS := Lib.hid hS
  have HR := Lib.hid hR
  clear hR hS
  go_enter Tryd.func50, Tryd.ntmps50
  go_wp2_with fail
  refine CloneMac_calls _ l _ h (by omega) _ (fun w1 v1 hb1 ho1 => ?_)
  have Hb1 := Lib.hid hb1
  have Ho1 := Lib.hid ho1
  clear hb1 ho1 h
  go_wp2_with fail
  go_loopg [3, 4] (msr l + 1) (fun gh s3 s4 wr => ∃ (cur : List Mac) (b : Bool), s4 = .bool b ∧ gh = msr cur + b.toNat ∧ Hid (MacsOk cur) ∧ Hid (peepL l = peepL cur) ∧ Hid (b = false → onceP cur = none) ∧ Hid (wr.ownsRow w.heap.size 44 5 s3 cur.length (cur.flatMap Mac.cells)) ∧ Hid (Below w.heap.size w wr))
  case atStart => exact ⟨l, true, rfl, rfl, Lib.hid hok, Lib.hid rfl, Lib.hid (fun h => by cases h), Ho1, Hb1⟩
  case round =>
    obtain ⟨cur, b, rfl, rfl, Hok, Heq, Hend, Ho, HB⟩ := hrel
    obtain ⟨g, cap, rfl, hg1, hg2, hc1, hc2⟩ := own_some Ho.out Hok.out.some_
    cases b
    · have he : peepL l = cur := by rw [Heq.out]; exact peepL_none (Hend.out rfl)
      have H1 := Lib.hid (HR.out wr _ HB.out (by rw [he]; exact Ho.out))
      go_wp2
      exact H1.out
    · have hzz := HB.out.size
      clear Hend
      go_wp2_with fail
      with_reducible refine once_calls g cap w.heap.size cur Hok.out _ Ho.out HB.out.size (HS.out.up HB.out h0) h0 _ (fun hn w5 hb5 => ?_) (fun l2 hl2 w5 g5 cap5 hb5 ho5 => ?_)
      · have Hn := Lib.hid hn
        have Ho5 := Lib.hid (own_below Ho.out hb5)
        have HB5 := Lib.hid (HB.out.trans (hb5.mono hzz))
        clear hn hb5
        go_wp2
        go_roundg (msr cur + 0)
        case measure => simp
        case rel => exact ⟨cur, false, rfl, rfl, Hok, Heq, Lib.hid (fun _ => Hn.out), Ho5, HB5⟩
      · have h3 := onceP_ok Hok.out hl2
        have Hok2 := Lib.hid h3.1
        have hm := h3.2.1
        have Heq2 := Lib.hid (Heq.out.trans (peepL_some Hok.out hl2))
        have Ho5 := Lib.hid ho5
        have HB5 := Lib.hid (HB.out.trans hb5)
        clear hl2 hb5 ho5 h3
        go_wp2
        go_roundg (msr l2 + 1)
        case measure => simp; omega
        case rel => exact ⟨l2, true, rfl, rfl, Hok2, Heq2, Lib.hid (fun h => by cases h), Ho5, HB5⟩
set_option maxRecDepth 100000 in
set_option maxHeartbeats 2000000 in
theorem PeepDo_calls (v : Value) (l : List Mac) (w : World) (h : rpMac.SL w w.heap.size l v) (hS : Shapes w) (R : Ending → World → Prop)
    (hT : MacsOk l → ∀ w' v', Below w.heap.size w w' → w'.ownsRow w.heap.size 44 5 v' (peepL l).length ((peepL l).flatMap Mac.cells) → R (.returned (.tuple #[v', .agg #[.int .i64 0, .int .i64 0]])) w')
    (hF : (macsFault l).1 ≠ 0 → ∀ w', Below w.heap.size w w' → R (.returned (.tuple #[.slice none 0 0, (.agg #[.int .i64 (macsFault l).1, .int .i64 (macsFault l).2])])) w') :
    Calls Tryd.prog 26 #[v] w R := by
  have h0 := hS.1
  have HS := Lib.hid hS
  have HT := Lib.hid hT
  have HF := Lib.hid hF
  have Hs := Lib.hid h
  have hval : macsFault l = (0, 0) ∨ (macsFault l).1 ≠ 0 := by
    by_cases e : macsFault l = (0, 0)
    · exact .inl e
    · right
      intro e1
      exact e (macsFault_zero l e1)
  clear hS hT hF h
  go_enter Tryd.func26, Tryd.ntmps26
  go_wp2_with fail
  refine Check_calls _ l _ (Hs.out.up (by exact bl0) (by simp)) (HS.out.up (by exact bl0) h0) _ ?_
  intro w1 hb1
  have hz : w.heap.size < w1.heap.size := by have := hb1.size; simp at this; omega
  have hE : w1.heap[w.heap.size]? = some (.cells #[.int .i64 0, .int .i64 0] 31 (0, 0)) := (hb1.block _ (by simp)).trans (heap_alloc_new _ _)
  have Hb1 := Lib.hid (show Below w.heap.size w w1 from (by exact bl0 : Below w.heap.size w _).trans (hb1.mono (by simp)))
  have HE := Lib.hid hE
  clear hb1 hE
  rcases hval with e | e
  · have hok := macsOk_iff.1 e
    rw [e]
    have He := Lib.hid e
    clear e
    go_wp2_with fail
    have hbA : Below w1.heap.size w1 (w1.alloc (Obj.cells #[.int .i64 0, .int .i64 0] 31)) := bl0
    refine peepOf_calls _ l hok _ (Hs.out.up (Hb1.out.trans (hbA.mono Hb1.out.size)) (by simp; omega)) (HS.out.up (Hb1.out.trans (hbA.mono Hb1.out.size)) h0) _ (fun w2 v2 hb2 ho2 => ?_)
    have hE2 := (hb2.block _ (by simp; omega)).trans (blk_alloc HE.out (Obj.cells #[.int .i64 0, .int .i64 0] 31))
    have Hb2 := Lib.hid (Hb1.out.trans ((hbA.trans (hb2.mono (by simp))).mono Hb1.out.size))
    have Ho2 := Lib.hid (ownsRow_base (B' := w.heap.size) ho2 (by simp; omega))
    obtain ⟨e0, e1⟩ := cells_blk hE2
    have hl2 := blk_lt hE2
    have f0 : w2.frozen? ⟨w.heap.size, 0, none⟩ = false := by simp [World.frozen?, hE2]
    have f1 : w2.frozen? ⟨w.heap.size, 1, none⟩ = false := by simp [World.frozen?, hE2]
    have HE2 := Lib.hid hE2
    have Hok := Lib.hid hok
    obtain ⟨A2, c2, rfl⟩ := own_slice Ho2.out
    obtain ⟨N, hN⟩ : ∃ N, (peepL l).length = N := ⟨_, rfl⟩
    rw [hN] at Ho2 ⊢
    have HN := Lib.hid hN
    clear hb2 hE2 ho2 hok hN
    go_wp2
    refine bodyPost_ret (v := .tuple #[.slice A2 N c2, .agg #[.int .i64 0, .int .i64 0]]) (res_slice_Fault (by rfl) (by rfl) (by rfl) (cells_blk (T := 31) (by exact (blkp HE2.out)))) rfl ?_
    refine HT.out Hok.out _ _ ((Hb2.out.setCell (p := ⟨w.heap.size, 0, none⟩) (Nat.le_refl _) _).setCell (p := ⟨w.heap.size, 1, none⟩) (Nat.le_refl _) _) ?_
    rw [HN.out]
    have n1 := row_not' Ho2.out HE2.out (by decide)
    have o1 := own_setCell_other (p := ⟨w.heap.size, 0, none⟩) Ho2.out n1 (.int .i64 0)
    exact own_setCell_other (p := ⟨w.heap.size, 1, none⟩) o1 n1 (.int .i64 0)
  · have HFe := Lib.hid (HF.out e)
    generalize macsFault l = ff at *
    obtain ⟨fc, fa⟩ := ff
    have jc : (fc != 0) = true := by simpa using e
    have hE2 := blk_alloc HE.out (Obj.cells #[.int .i64 fc, .int .i64 fa] 31)
    obtain ⟨e0, e1⟩ := cells_blk HE.out
    have f0 : w1.frozen? ⟨w.heap.size, 0, none⟩ = false := by simp [World.frozen?, HE.out]
    have f1 : w1.frozen? ⟨w.heap.size, 1, none⟩ = false := by simp [World.frozen?, HE.out]
    have HE2 := Lib.hid hE2
    clear hE2 e
    go_wp2_with fail
    go_region_law (fail)
    all_goals
      go_wp2
      refine bodyPost_ret (v := .tuple #[.slice none 0 0, .agg #[.int .i64 fc, .int .i64 fa]]) (res_slice_Fault (by rfl) (by rfl) (by rfl) (cells_blk (T := 31) (by exact (blkp HE.out)))) rfl ?_
      refine HFe.out _ ?_
      have hb := Hb1.out
      exact bl0
end Go.Proofs.YtkcmijnaheapdaaDoor
