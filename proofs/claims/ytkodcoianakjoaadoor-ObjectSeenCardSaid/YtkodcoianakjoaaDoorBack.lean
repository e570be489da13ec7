/- Objects come back from their bytes: the walk; words for variables that hold an object and a fault. -/
import Derived.Test.YtkodcoianakjoaaDoorBase
import Derived.Test.YtkodcoianakjoaaDoorRows
import Derived.IntWalk
import Derived.Outline
import Derived.Deep.CutBlock
import Derived.Deep.DeepCutAuto
import Derived.Deep.RegionHeld3
import Derived.Test.YtkodcoianakjoaaDoorFixed
import Derived.Test.YtkodcoianakjoaaDoorSameA
import Derived.Test.YtkodcoianakjoaaDoorKitS
import Derived.Test.YtkodcoianakjoaaDoorKit6
namespace Go.Proofs.YtkodcoianakjoaaDoor
open Go.RowKit
set_option linter.unusedSimpArgs false
set_option linter.unusedVariables false

/-- A variable that holds an object. -/
structure OV (W : World) (V : Nat) (o : Object) (A1 : Option Addr) (n1 : Nat) (A2 : Option Addr) (n2 : Nat) : Prop where
  bl : W.heap[V]? = some (.cells #[.slice A1 o.globals.length n1, .slice A2 o.sections.length n2] 25 (0, 0))
  g : rpGlobal.SL W W.heap.size o.globals (.slice A1 o.globals.length n1)
  s : rpSection.SL W W.heap.size o.sections (.slice A2 o.sections.length n2)
theorem OV.up {W W' : World} {V : Nat} {o : Object} {A1 A2 : Option Addr} {n1 n2 : Nat} (h : OV W V o A1 n1 A2 n2) (hb : Below W.heap.size W W') : OV W' V o A1 n1 A2 n2 :=
  ⟨(hb.block _ (blk_lt h.bl)).trans h.bl, h.g.up hb hb.size, h.s.up hb hb.size⟩
theorem OV.two {w : World} {o : Object} {A1 A2 : Option Addr} {n1 n2 : Nat} {u1 u2 : Value} (h1 : rpGlobal.SL w w.heap.size o.globals u1) (h2 : rpSection.SL w w.heap.size o.sections u2) (e1 : u1 = .slice A1 o.globals.length n1) (e2 : u2 = .slice A2 o.sections.length n2) (F : Int × Int) (W : World) (hW : W = (w.alloc (Obj.cells #[u1, u2] 25)).alloc (Obj.cells #[.int .i64 F.1, .int .i64 F.2] 27)) :
    OV W w.heap.size o A1 n1 A2 n2 ∧ W.heap[w.heap.size + 1]? = some (.cells #[.int .i64 F.1, .int .i64 F.2] 27 (0, 0)) ∧ Below w.heap.size w W ∧ W.heap.size = w.heap.size + 2 := by
  subst e1 e2 hW
  have hb : Below w.heap.size w ((w.alloc (Obj.cells #[.slice A1 o.globals.length n1, .slice A2 o.sections.length n2] 25)).alloc (Obj.cells #[.int .i64 F.1, .int .i64 F.2] 27)) := ((Below.refl _ _).alloc (Nat.le_refl _) _).alloc (by simp) _
  refine ⟨⟨blk_alloc (heap_alloc_new _ _) _, h1.up hb hb.size, h2.up hb hb.size⟩, ?_, hb, by simp⟩
  have := heap_alloc_new (w.alloc (Obj.cells #[.slice A1 o.globals.length n1, .slice A2 o.sections.length n2] 25)) (Obj.cells #[.int .i64 F.1, .int .i64 F.2] 27)
  simpa using this
theorem OV.one {w : World} {o : Object} {A1 A2 : Option Addr} {n1 n2 : Nat} {u1 u2 : Value} (h1 : rpGlobal.SL w w.heap.size o.globals u1) (h2 : rpSection.SL w w.heap.size o.sections u2) (e1 : u1 = .slice A1 o.globals.length n1) (e2 : u2 = .slice A2 o.sections.length n2) (W : World) (hW : W = w.alloc (Obj.cells #[u1, u2] 25)) :
    OV W w.heap.size o A1 n1 A2 n2 ∧ Below w.heap.size w W ∧ W.heap.size = w.heap.size + 1 := by
  subst e1 e2 hW
  have hb : Below w.heap.size w (w.alloc (Obj.cells #[.slice A1 o.globals.length n1, .slice A2 o.sections.length n2] 25)) := (Below.refl _ _).alloc (Nat.le_refl _) _
  exact ⟨⟨heap_alloc_new _ _, h1.up hb hb.size, h2.up hb hb.size⟩, hb, by simp⟩

set_option maxRecDepth 100000 in
set_option maxHeartbeats 4000000 in
theorem Back_calls (raw : List (List Int)) (v : Value) (main : Bool) (w : World) (h : rpInt.slice.SL w w.heap.size raw v) (hraw : ∀ l ∈ raw, ∀ x ∈ l, I64 x) (hS : Shapes w) (R : Ending → World → Prop)
    (hR : ∀ w', Below w.heap.size w w' → R (.returned (.bool true)) w') :
    Calls Tryd.prog 7 #[v, .bool main] w R := by
  have h0 := hS.1
  obtain ⟨A, c, rfl, hm, hcap, h⟩ := h.cases_
  obtain ⟨k1, k2, k3, k4, k5⟩ := objOf_back raw 6 main (by decide) hraw
  have hwide := objOf_wide raw 6 main
  obtain ⟨o, ho⟩ : ∃ o, o = objOf raw 6 main := ⟨_, rfl⟩
  rw [← ho] at k1 k2 k3 k4 k5 hwide
  have HS := Lib.hid hS
  have HR := Lib.hid hR
  have H := Lib.hid h
  have Hraw := Lib.hid hraw
  have K1 := Lib.hid k1
  have K2 := Lib.hid k2
  have K3 := Lib.hid k3
  have K4 := Lib.hid k4
  have K5 := Lib.hid k5
  have Hwide := Lib.hid hwide
  have Ho := Lib.hid ho
  clear hS hR h hraw k1 k2 k3 k4 k5 hwide ho
  go_enter Tryd.func7, Tryd.ntmps7
  go_wp2_with fail
  refine KitObject_calls raw _ 6 main _ H.out Hraw.out (by decide) _ (fun w1 u1 u2 hb1 hu1 hu2 => ?_)
  rw [← Ho.out] at hu1 hu2
  obtain ⟨A1, n1, e1, _, _, _⟩ := hu1.cases_
  obtain ⟨A2, n2, e2, _, _, _⟩ := hu2.cases_
  obtain ⟨W1, hW1⟩ : ∃ W1, W1 = w1.alloc (Obj.cells #[u1, u2] 25) := ⟨_, rfl⟩
  obtain ⟨hV, hbW, hzW⟩ := OV.one hu1.SL hu2.SL e1 e2 W1 hW1
  subst e1 e2
  have hb2 := hb1.trans (hbW.mono hb1.size)
  have Hb := Lib.hid hb2
  have HV := Lib.hid hV
  have HW1 := Lib.hid hW1.symm
  obtain ⟨p0, p1⟩ := cells_blk hV.bl
  have hl1 : w1.heap.size < W1.heap.size := by omega
  clear hu1 hu2 hb1 hW1 hV hbW hb2
  go_wp2_with fail
  rw [HW1.out]
  go_wp2_with fail
  refine Save_calls o _ _ _ HV.out.g HV.out.s Hwide.out (HS.out.up Hb.out h0) _ (fun w2 v2 hb2 hbuf => ?_)
  rw [K2.out]
  rw [K3.out] at hbuf
  obtain ⟨A3, c3, rfl⟩ := hbuf.slice
  have Hbuf := Lib.hid hbuf
  have Hb2 := Lib.hid hb2
  have hz2 := hb2.size
  clear hb2 hbuf p0 p1 HW1
  go_wp2_with fail
  obtain ⟨W2, hW2⟩ : ∃ W2, W2 = w2.alloc (Obj.cells #[.int .i64 0, .int .i64 0] 27) := ⟨_, rfl⟩
  rw [← hW2]
  have hF2 : W2.heap[w2.heap.size]? = some (.cells #[.int .i64 0, .int .i64 0] 27 (0, 0)) := by subst hW2; exact heap_alloc_new _ _
  have hzW2 : W2.heap.size = w2.heap.size + 1 := by subst hW2; simp
  have hb3 : Below w2.heap.size w2 W2 := by subst hW2; exact (by repeat (first | exact Below.refl _ _ | assumption | refine below_drewN ?_ _ | refine Below.drew ?_ | refine Below.setCell ?_ (by first | omega | (simp; done) | (simp; omega)) _ | refine Below.alloc ?_ (by first | omega | (simp; done) | (simp; omega)) _ | refine below_step (by assumption) ?_ (by first | omega | (simp; done) | (simp; omega))))
  have HF2 := Lib.hid hF2
  have Hb3 := Lib.hid hb3
  have Hbb := Lib.hid (Hb2.out.trans (hb3.mono Hb2.out.size))
  clear hW2 hF2 hb3
  refine Load_calls _ (savedB o) _ ((Hbuf.out.SL (Nat.le_refl _)).up Hb3.out Hb3.out.size) ((HS.out.up Hb.out h0).up Hbb.out (by omega)) _ (fun w3 u3 u4 hb3 hu3 hu4 => ?_)
  rw [K5.out]
  rw [K4.out] at hu3 hu4
  obtain ⟨A5, n5, e5, _, _, _⟩ := hu3.cases_
  obtain ⟨A6, n6, e6, _, _, _⟩ := hu4.cases_
  obtain ⟨W3, hW3⟩ : ∃ W3, W3 = (w3.alloc (Obj.cells #[u3, u4] 25)).alloc (Obj.cells #[.int .i64 ((0, 0) : Int × Int).1, .int .i64 ((0, 0) : Int × Int).2] 27) := ⟨_, rfl⟩
  obtain ⟨hV3, hF3, hbW3, hzW3⟩ := OV.two hu3.SL hu4.SL e5 e6 (0, 0) W3 hW3
  subst e5 e6
  have hz3 := hb3.size
  have HW3 := Lib.hid hW3.symm
  have HV3 := Lib.hid hV3
  have HF3 := Lib.hid hF3
  have hq := hb3.trans (hbW3.mono hb3.size)
  have HVW := Lib.hid ((HV.out.up Hbb.out).up hq)
  have HFW := Lib.hid ((hq.block _ (by omega)).trans HF2.out)
  have HbW := Lib.hid ((Hb.out.trans (Hbb.out.mono (Hb.out.size))).trans (hq.mono (by have := Hb.out.size; omega)))
  clear hu3 hu4 hb3 hW3 hV3 hF3 hbW3 hq
  simp only [] at HW3 HF3
  go_upto_region 4 with fail
  rw [HW3.out]
  obtain ⟨f0, f1⟩ := cells_blk HFW.out
  obtain ⟨g0, g1⟩ := cells_blk HF3.out
  obtain ⟨p0, p1⟩ := cells_blk HVW.out.bl
  obtain ⟨q0, q1⟩ := cells_blk HV3.out.bl
  have hl2 : w2.heap.size < W3.heap.size := by omega
  have hl3 : w3.heap.size < W3.heap.size := by omega
  have hl3' : w3.heap.size + 1 < W3.heap.size := by omega
  have hl1' : w1.heap.size < W3.heap.size := by omega
  have HCk : Hid (∀ (W : World), Below W3.heap.size W3 W → ∀ (R : Ending → World → Prop), (∀ w', Below W.heap.size W w' → R (.returned (.agg #[.int .i64 0, .int .i64 0])) w') → Calls Tryd.prog 23 #[.agg #[.slice A1 o.globals.length n1, .slice A2 o.sections.length n2]] W R) := Lib.hid fun W h R hR =>
    objCheck_calls o _ _ W (HVW.out.g.up h h.size) (HVW.out.s.up h h.size) (HS.out.up (HbW.out.trans (h.mono HbW.out.size)) h0) R (by rw [K1.out]; exact hR)
  have HSm : Hid (∀ (W : World), Below W3.heap.size W3 W → ∀ (R : Ending → World → Prop), (∀ w', Below W.heap.size W w' → R (.returned (.bool true)) w') → Calls Tryd.prog 14 #[.agg #[.slice A5 o.globals.length n5, .slice A6 o.sections.length n6], .agg #[.slice A1 o.globals.length n1, .slice A2 o.sections.length n2]] W R) := Lib.hid fun W h R hR =>
    SameObject_calls o _ _ _ _ W (HV3.out.g.up h h.size) (HV3.out.s.up h h.size) (HVW.out.g.up h h.size) (HVW.out.s.up h h.size) R hR
  have HSS : Hid (∀ W, Below W3.heap.size W3 W → (W.cell? ⟨w1.heap.size, 0, none⟩ = some (.slice A1 o.globals.length n1) ∧ W.cell? ⟨w1.heap.size, 1, none⟩ = some (.slice A2 o.sections.length n2)) ∧ (W.cell? ⟨w3.heap.size, 0, none⟩ = some (.slice A5 o.globals.length n5) ∧ W.cell? ⟨w3.heap.size, 1, none⟩ = some (.slice A6 o.sections.length n6))) := Lib.hid fun W h =>
    ⟨⟨(h.cell (p := ⟨w1.heap.size, 0, none⟩) hl1').trans p0, (h.cell (p := ⟨w1.heap.size, 1, none⟩) hl1').trans p1⟩, (h.cell (p := ⟨w3.heap.size, 0, none⟩) hl3).trans q0, (h.cell (p := ⟨w3.heap.size, 1, none⟩) hl3).trans q1⟩
  clear p0 p1 q0 q1
  have hfd : ∀ w : World, (Instr.field 27 (.agg #[.int .i64 0, .int .i64 0]) 0).run Tryd.prog w = .ok (.int .i64 0) w := fun _ => by kernel_rfl
  go_wp2_with fail
  refine Sure_calls _ (HS.out.up HbW.out h0) _ (fun w5 hb5 => ?_)
  obtain ⟨⟨p0, p1⟩, q0, q1⟩ := HSS.out w5 hb5
  have hb5' := Lib.hid hb5
  clear hb5
  go_wp2_with fail
  refine HCk.out _ hb5'.out _ (fun w6 hb6 => ?_)
  have hb6' := Lib.hid (hb5'.out.trans (hb6.mono hb5'.out.size))
  clear p0 p1 q0 q1 hb6
  obtain ⟨⟨p0, p1⟩, q0, q1⟩ := HSS.out w6 hb6'.out
  go_wp2_with fail
  refine HSm.out _ hb6'.out _ (fun w7 hb7 => ?_)
  have E := HbW.out.trans ((hb6'.out.trans (hb7.mono hb6'.out.size)).mono HbW.out.size)
  clear hb7
  go_wp2
  exact HR.out _ E
end Go.Proofs.YtkodcoianakjoaaDoor
