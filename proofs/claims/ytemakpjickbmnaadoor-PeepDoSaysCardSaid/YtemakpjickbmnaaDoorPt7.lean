/- peep.Do and the document's answer, compared. -/
import Derived.Test.YtemakpjickbmnaaDoorBase
import Derived.Test.YtemakpjickbmnaaDoorRows
import Derived.IntWalk
import Derived.Outline
import Derived.Test.YtemakpjickbmnaaDoorPt6
namespace Go.Proofs.YtemakpjickbmnaaDoor
open Go.RowKit
set_option linter.unusedSimpArgs false
set_option linter.unusedVariables false

set_option maxRecDepth 100000 in
set_option maxHeartbeats 2000000 in
theorem PeepDoSays_calls (l : List Mac) (v : Value) (w : World) (h : rpMac.SL w w.heap.size l v) (hS : Shapes w) (R : Ending → World → Prop) (hR : ∀ w', Below w.heap.size w w' → R (.returned (.bool true)) w') :
    Calls Tryd.prog 4 #[v] w R := by
  have h0 := hS.1
  obtain ⟨A, c, rfl, hmx, hcap, hs⟩ := h.cases_
  have HS := Lib.hid hS
  have HR := Lib.hid hR
  have Hs := Lib.hid hs
  clear hR hS hs h
  by_cases h60 : 60 < l.length
  · have i60 : (60 : Int) < (l.length : Int) := by omega
    clear h60
    go_enter Tryd.func4, Tryd.ntmps4
    go_wp2
    exact HR.out _ bl0
  have i60 : ¬ (60 : Int) < (l.length : Int) := by omega
  clear h60
  go_enter Tryd.func4, Tryd.ntmps4
  go_wp2_with fail
  refine PeepDo_calls _ l _ Hs.out HS.out _ (fun hok w1 v1 hb1 ho1 => ?_) (fun he w1 hb1 => ?_)
  · have hf := macsOk_iff.2 hok
    have hq : ∀ w, (binOp .eql 25 (.agg #[.int .i64 0, .int .i64 0]) (.agg #[.int .i64 0, .int .i64 0])).run Tryd.prog w = .ok (.bool true) w := fun w => by rw [eql_Fault]; simp
    have Hf := Lib.hid hf
    have Hok := Lib.hid hok
    have hsl1 := SLMac_own (B := w1.heap.size) ho1 (Nat.le_refl _)
    obtain ⟨A1, c1, rfl⟩ := own_slice ho1
    have Hsl1 := Lib.hid hsl1
    have Hb1 := Lib.hid hb1
    clear hf hok ho1 hsl1 hb1
    generalize hN : (peepL l).length = N at *
    clear hN
    have hbA : Below w1.heap.size w1 (w1.alloc (Obj.cells #[.int .i64 0, .int .i64 0] 25)) := bl0
    have HbA := Lib.hid hbA
    clear hbA
    go_wp2_with fail
    refine RefMacCheck_calls _ l _ (Hs.out.up (Hb1.out.trans (HbA.out.mono Hb1.out.size)) (by have := Hb1.out.size; simp; omega)) _ (fun w2 hb2 => ?_)
    rw [Hf.out]
    have hE2 := (hb2.block w1.heap.size (by simp)).trans (heap_alloc_new w1 (Obj.cells #[.int .i64 0, .int .i64 0] 25))
    obtain ⟨e0, e1⟩ := cells_blk hE2
    have hl2 := blk_lt hE2
    have Hb2 := Lib.hid (HbA.out.trans (hb2.mono (by simp)))
    have HB2 := Lib.hid (Hb1.out.trans (Hb2.out.mono Hb1.out.size))
    clear hb2 hE2
    have hbF : Below w2.heap.size w2 (w2.alloc (Obj.cells #[.int .i64 0, .int .i64 0] 25)) := bl0
    have HBF := Lib.hid (HB2.out.trans (hbF.mono HB2.out.size))
    have HbF := Lib.hid (Hb2.out.trans (hbF.mono Hb2.out.size))
    clear hbF
    go_wp2_with fail
    refine rPeepDo_calls _ l Hok.out _ (Hs.out.up HBF.out HBF.out.size) _ (fun w3 v3 hb3 hs3 => ?_)
    have hb13 := HbF.out.trans (hb3.mono HbF.out.size)
    have HB3 := Lib.hid (HBF.out.trans (hb3.mono HBF.out.size))
    have Hsx := Lib.hid (Hsl1.out.up hb13 hb13.size)
    have Hs3 := Lib.hid hs3
    obtain ⟨A3, c3, rfl, _, _, hx3⟩ := hs3.cases_
    clear hx3 hb3 hb13
    generalize hN : (peepL l).length = N3 at *
    clear hN
    go_wp2_with fail
    refine SameMacs_calls _ _ (peepL l) (peepL l) _ w3.heap.size Hsx.out Hs3.out _ (fun n => ?_)
    rw [show decide (peepL l = peepL l) = true from decide_eq_true rfl]
    have Hb5 := Lib.hid (below_drewN HB3.out n)
    go_wp2
    exact HR.out _ Hb5.out
  · have Hb1 := Lib.hid hb1
    clear hb1
    generalize hF : macsFault l = F at *
    have HFe := Lib.hid hF
    obtain ⟨fc, fa⟩ := F
    have jc : (fc != 0) = true := by simpa using he
    have hq : ∀ w, (binOp .eql 25 (.agg #[.int .i64 fc, .int .i64 fa]) (.agg #[.int .i64 fc, .int .i64 fa])).run Tryd.prog w = .ok (.bool true) w := fun w => by rw [eql_Fault]; simp
    clear he hF
    have hbA : Below w1.heap.size w1 (w1.alloc (Obj.cells #[.int .i64 fc, .int .i64 fa] 25)) := bl0
    have HbA := Lib.hid hbA
    clear hbA
    go_wp2_with fail
    refine RefMacCheck_calls _ l _ (Hs.out.up (Hb1.out.trans (HbA.out.mono Hb1.out.size)) (by have := Hb1.out.size; simp; omega)) _ (fun w2 hb2 => ?_)
    rw [HFe.out]
    have hE2 := (hb2.block w1.heap.size (by simp)).trans (heap_alloc_new w1 (Obj.cells #[.int .i64 fc, .int .i64 fa] 25))
    obtain ⟨e0, e1⟩ := cells_blk hE2
    have hl2 := blk_lt hE2
    have Hb2 := Lib.hid (HbA.out.trans (hb2.mono (by simp)))
    have HB2 := Lib.hid (Hb1.out.trans (Hb2.out.mono Hb1.out.size))
    clear hb2 hE2
    have hbF : Below w2.heap.size w2 (w2.alloc (Obj.cells #[.int .i64 fc, .int .i64 fa] 25)) := bl0
    have HBF := Lib.hid (HB2.out.trans (hbF.mono HB2.out.size))
    clear hbF
    go_wp2
    exact HR.out _ HBF.out
end Go.Proofs.YtemakpjickbmnaaDoor
