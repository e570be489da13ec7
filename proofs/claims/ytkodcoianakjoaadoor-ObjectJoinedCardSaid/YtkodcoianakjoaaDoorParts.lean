/- Parts of an object, joined again: the walks of ObjectParts and ObjectJoined. -/
import Derived.Test.YtkodcoianakjoaaDoorBase
import Derived.Test.YtkodcoianakjoaaDoorRows
import Derived.IntWalk
import Derived.Outline
import Derived.Deep.LoopGhost
import Derived.Deep.CutBlock
import Derived.Deep.DeepCutAuto
import Derived.Test.YtkodcoianakjoaaDoorBack
import Derived.Test.YtkodcoianakjoaaDoorPart1
import Derived.Test.YtkodcoianakjoaaDoorJoin
import Derived.Test.YtkodcoianakjoaaDoorSegP
namespace Go.Proofs.YtkodcoianakjoaaDoor
open Go.RowKit
set_option linter.unusedSimpArgs false
set_option linter.unusedVariables false

/-- Variables that stand side by side: an object, and a fault that is none. -/
structure OF (W : World) (V : Nat) (o : Object) (A1 : Option Addr) (n1 : Nat) (A2 : Option Addr) (n2 : Nat) : Prop where
  ov : OV W V o A1 n1 A2 n2
  f : W.heap[V + 1]? = some (.cells #[.int .i64 0, .int .i64 0] 27 (0, 0))
theorem OF.up {W W' : World} {V : Nat} {o : Object} {A1 A2 : Option Addr} {n1 n2 : Nat} (h : OF W V o A1 n1 A2 n2) (hb : Below W.heap.size W W') : OF W' V o A1 n1 A2 n2 :=
  ⟨h.ov.up hb, (hb.block _ (blk_lt h.f)).trans h.f⟩
theorem OF.new {w : World} {b : Nat} {o : Object} {u1 u2 : Value} (h1 : rpGlobal.SLF w b w.heap.size o.globals u1) (h2 : rpSection.SLF w b w.heap.size o.sections u2) :
    ∃ A1 n1 A2 n2, u1 = .slice A1 o.globals.length n1 ∧ u2 = .slice A2 o.sections.length n2 ∧ OF ((w.alloc (Obj.cells #[u1, u2] 25)).alloc (Obj.cells #[.int .i64 0, .int .i64 0] 27)) w.heap.size o A1 n1 A2 n2 ∧
      Below w.heap.size w ((w.alloc (Obj.cells #[u1, u2] 25)).alloc (Obj.cells #[.int .i64 0, .int .i64 0] 27)) := by
  obtain ⟨A1, n1, e1, _, _, _⟩ := h1.cases_
  obtain ⟨A2, n2, e2, _, _, _⟩ := h2.cases_
  obtain ⟨a, b, c, _⟩ := OV.two h1.SL h2.SL e1 e2 (0, 0) _ rfl
  exact ⟨A1, n1, A2, n2, e1, e2, ⟨a, b⟩, c⟩
theorem OF.put {w : World} {V b : Nat} {o : Object} {A1 A2 : Option Addr} {n1 n2 : Nat} {x y z1 z2 : Value} (hV : w.heap[V]? = some (.cells #[x, y] 25 (0, 0))) (hF : w.heap[V + 1]? = some (.cells #[z1, z2] 27 (0, 0))) (hb : V + 1 < b)
    (h1 : rpGlobal.SLF w b w.heap.size o.globals (.slice A1 o.globals.length n1)) (h2 : rpSection.SLF w b w.heap.size o.sections (.slice A2 o.sections.length n2)) :
    OF ((((w.setCell ⟨V, 0, none⟩ (.slice A1 o.globals.length n1)).setCell ⟨V, 1, none⟩ (.slice A2 o.sections.length n2)).setCell ⟨V + 1, 0, none⟩ (.int .i64 0)).setCell ⟨V + 1, 1, none⟩ (.int .i64 0)) V o A1 n1 A2 n2 ∧
    Below V w ((((w.setCell ⟨V, 0, none⟩ (.slice A1 o.globals.length n1)).setCell ⟨V, 1, none⟩ (.slice A2 o.sections.length n2)).setCell ⟨V + 1, 0, none⟩ (.int .i64 0)).setCell ⟨V + 1, 1, none⟩ (.int .i64 0)) := by
  have hs : ((((w.setCell ⟨V, 0, none⟩ (.slice A1 o.globals.length n1)).setCell ⟨V, 1, none⟩ (.slice A2 o.sections.length n2)).setCell ⟨V + 1, 0, none⟩ (.int .i64 0)).setCell ⟨V + 1, 1, none⟩ (.int .i64 0)).heap.size = w.heap.size := by simp [World.setCell]
  refine ⟨⟨⟨?_, ?_, ?_⟩, ?_⟩, ?_⟩
  · exact blk_other (blk_other (by rw [block_set (block_set hV _)]; rfl) (by omega) _) (by omega) _
  · rw [hs]
    exact ((((h1.setCell ⟨V, 0, none⟩ (by show V < b; omega) _).setCell ⟨V, 1, none⟩ (by show V < b; omega) _).setCell ⟨V + 1, 0, none⟩ hb _).setCell ⟨V + 1, 1, none⟩ hb _).SL
  · rw [hs]
    exact ((((h2.setCell ⟨V, 0, none⟩ (by show V < b; omega) _).setCell ⟨V, 1, none⟩ (by show V < b; omega) _).setCell ⟨V + 1, 0, none⟩ hb _).setCell ⟨V + 1, 1, none⟩ hb _).SL
  · rw [block_set (block_set (blk_other (blk_other hF (by omega) _) (by omega) _) _)]
    rfl
  · exact ((((Below.refl V w).setCell (p := ⟨V, 0, none⟩) (Nat.le_refl _) _).setCell (p := ⟨V, 1, none⟩) (Nat.le_refl _) _).setCell (p := ⟨V + 1, 0, none⟩) (Nat.le_succ _) _).setCell (p := ⟨V + 1, 1, none⟩) (Nat.le_succ _) _

set_option maxRecDepth 100000 in
set_option maxHeartbeats 4000000 in
theorem Parts_calls (raw : List (List Int)) (v : Value) (main : Bool) (w : World) (h : rpInt.slice.SL w w.heap.size raw v) (hraw : ∀ l ∈ raw, ∀ x ∈ l, I64 x) (hS : Shapes w) (R : Ending → World → Prop)
    (hR : ∀ w', Below w.heap.size w w' → R (.returned (.bool true)) w') :
    Calls Tryd.prog 10 #[v, .bool main] w R := by
  have h0 := hS.1
  obtain ⟨A, c, rfl, hm, hcap, h⟩ := h.cases_
  have hok := objOf_ok (raw := raw) (n := 6) (main := main) (by decide) hraw
  obtain ⟨o, ho⟩ : ∃ o, o = objOf raw 6 main := ⟨_, rfl⟩
  rw [← ho] at hok
  have HS := Lib.hid hS
  have HR := Lib.hid hR
  have H := Lib.hid h
  have Hraw := Lib.hid hraw
  have Hok := Lib.hid hok
  have Ho := Lib.hid ho
  clear hS hR h hraw hok ho
  go_enter Tryd.func10, Tryd.ntmps10
  go_wp2_with fail
  refine KitObject_calls raw _ 6 main _ H.out Hraw.out (by decide) _ (fun w1 u1 u2 hb1 hu1 hu2 => ?_)
  rw [← Ho.out] at hu1 hu2
  obtain ⟨A0, n0, e1, _, _, _⟩ := hu1.cases_
  obtain ⟨B0, m0, e2, _, _, _⟩ := hu2.cases_
  obtain ⟨W0, hW0⟩ : ∃ W0, W0 = w1.alloc (Obj.cells #[u1, u2] 25) := ⟨_, rfl⟩
  obtain ⟨hV, hbW, hzW⟩ := OV.one hu1.SL hu2.SL e1 e2 W0 hW0
  subst e1 e2
  have Hb0 := Lib.hid (hb1.trans (hbW.mono hb1.size))
  have HV0 := Lib.hid hV
  have HW0 := Lib.hid hW0.symm
  obtain ⟨p0, p1⟩ := cells_blk hV.bl
  have hl0 : w1.heap.size < W0.heap.size := by omega
  clear hu1 hu2 hb1 hW0 hV hbW hzW
  go_wp2_with fail
  rw [HW0.out]
  go_wp2_with fail
  refine Sure_calls _ (HS.out.up Hb0.out h0) _ (fun w2 hb2 => ?_)
  have hV2 := HV0.out.up hb2
  have Hb2 := Lib.hid (Hb0.out.trans (hb2.mono Hb0.out.size))
  have HV2 := Lib.hid hV2
  clear p0 p1
  obtain ⟨p0, p1⟩ := cells_blk hV2.bl
  have hl2 : w1.heap.size < w2.heap.size := blk_lt hV2.bl
  clear hb2 hV2 HW0
  by_cases hlen : o.sections.length = 0
  · have i0 : ((o.sections.length : Int) == 0) = true := by simp [hlen]
    have hfin := Lib.hid (HR.out _ Hb2.out)
    clear hlen
    go_wp2
    exact hfin.out
  have i0 : ((o.sections.length : Int) == 0) = false := by simp [hlen]
  have hpos : 0 < o.sections.length := by omega
  obtain ⟨f1, f2⟩ := seg_part Hok.out hpos
  have F1 := Lib.hid f1
  have F2 := Lib.hid f2
  clear hlen f1 f2
  go_wp2_with fail
  refine Part_calls o 0 _ _ _ HV2.out.g HV2.out.s (HS.out.up Hb2.out h0) _ (fun w3 u3 u4 hb3 hu3 hu4 => ?_)
  rw [show partF o 0 = (0, 0) from F1.out]
  rw [show partO o 0 = segO o 0 1 from F2.out] at hu3 hu4
  obtain ⟨A1, n1, B1, m1, rfl, rfl, hO, hbW⟩ := OF.new hu3 hu4
  have hz3 := hb3.size
  have HV3 := Lib.hid (HV2.out.up hb3)
  have Hb3 := Lib.hid (Hb2.out.trans (hb3.mono Hb2.out.size))
  obtain ⟨W3, hW3⟩ : ∃ W3, W3 = (w3.alloc (Obj.cells #[.slice A1 (segO o 0 1).globals.length n1, .slice B1 (segO o 0 1).sections.length m1] 25)).alloc (Obj.cells #[.int .i64 0, .int .i64 0] 27) := ⟨_, rfl⟩
  rw [← hW3] at hO hbW
  have HW3 := Lib.hid hW3.symm
  have HO := Lib.hid hO
  have HbW := Lib.hid hbW
  have hl3 : w1.heap.size < w3.heap.size := by omega
  clear hu3 hu4 hb3 hW3 hO hbW p0 p1
  go_upto_region 7 with fail
  rw [HW3.out]
  go_wp2_with fail
  go_loopg [8, 9, 10] (o.sections.length - 1) (fun gh s8 s9 s10 wr => ∃ (k : Nat) (A : Option Addr) (n : Nat) (B : Option Addr) (m : Nat), 1 ≤ k ∧ k ≤ o.sections.length ∧ gh = o.sections.length - k ∧ s8 = .int .i64 (k : Int) ∧ OF wr w3.heap.size (segO o 0 k) A n B m ∧ Below w3.heap.size w3 wr)
  case atStart => exact ⟨1, _, _, _, _, Nat.le_refl _, hpos, rfl, rfl, HO.out, HbW.out⟩
  case round =>
    obtain ⟨k, Ak, nk, Bk, mk, hk1, hk, rfl, rfl, hof, hbel⟩ := hrel
    have hVr := HV3.out.up hbel
    have Hof := Lib.hid hof
    have Hbel := Lib.hid hbel
    have HVr := Lib.hid hVr
    have Hbr := Lib.hid (Hb3.out.trans (hbel.mono Hb3.out.size))
    obtain ⟨p0, p1⟩ := cells_blk hVr.bl
    obtain ⟨q0, q1⟩ := cells_blk hof.ov.bl
    obtain ⟨f0, f1⟩ := cells_blk hof.f
    have hlV := blk_lt hVr.bl
    have hlO := blk_lt hof.ov.bl
    have hlF := blk_lt hof.f
    have j1 : (0 : Int) ≤ (k : Int) := Int.natCast_nonneg _
    clear hof hbel hVr
    by_cases hlt : k < o.sections.length
    · have j2 : (k : Int) < (o.sections.length : Int) := by omega
      obtain ⟨g1, g2⟩ := seg_part Hok.out hlt
      have hlen1 : (segO o k (k + 1)).sections.length = 1 := by rw [seg_len]; omega
      obtain ⟨s1, s2⟩ := seg_join Hok.out (i := 0) (j := k) (k := k + 1) (Nat.zero_le _) (Nat.le_succ _) hlt
      obtain ⟨p, hp⟩ : ∃ p, p = segO o k (k + 1) := ⟨_, rfl⟩
      obtain ⟨nw, hnw⟩ : ∃ p, p = segO o 0 k := ⟨_, rfl⟩
      rw [← hp] at g2 hlen1 s1 s2
      rw [← hnw] at Hof q0 q1 s1 s2
      have G1 := Lib.hid g1
      have G2 := Lib.hid g2
      have S1 := Lib.hid s1
      have S2 := Lib.hid s2
      have j3 : ((p.sections.length : Int) != 1) = false := by simp [hlen1]
      clear g1 g2 s1 s2 hp hnw hlen1
      go_wp2_with fail
      refine Part_calls o (k : Int) _ _ _ HVr.out.g HVr.out.s (HS.out.up Hbr.out h0) _ (fun w4 u5 u6 hb4 hu5 hu6 => ?_)
      rw [G1.out]
      rw [G2.out] at hu5 hu6
      obtain ⟨A4, n4, B4, m4, rfl, rfl, hO4, hbW4⟩ := OF.new hu5 hu6
      have hz4 := hb4.size
      obtain ⟨W4, hW4⟩ : ∃ W4, W4 = (w4.alloc (Obj.cells #[.slice A4 p.globals.length n4, .slice B4 p.sections.length m4] 25)).alloc (Obj.cells #[.int .i64 0, .int .i64 0] 27) := ⟨_, rfl⟩
      rw [← hW4] at hO4 hbW4
      have hb44 := hb4.trans (hbW4.mono hz4)
      have HW4 := Lib.hid hW4.symm
      have hOf4 := Hof.out.up hb44
      have HO4 := Lib.hid hO4
      have HOf4 := Lib.hid hOf4
      have HV4 := Lib.hid (HVr.out.up hb44)
      have Hbel4 := Lib.hid (Hbel.out.trans (hb44.mono Hbel.out.size))
      have Hb4 := Lib.hid (Hbr.out.trans (hb44.mono Hbr.out.size))
      clear p0 p1 q0 q1 f0 f1 hu5 hu6 hb4 hW4 hbW4 hb44
      obtain ⟨q0, q1⟩ := cells_blk hOf4.ov.bl
      obtain ⟨r0, r1⟩ := cells_blk hO4.ov.bl
      obtain ⟨d0, d1⟩ := cells_blk hO4.f
      have l1 := blk_lt hOf4.ov.bl
      have l2 := blk_lt hO4.ov.bl
      have l3 := blk_lt hO4.f
      clear hOf4 hO4
      go_upto_region 11 with fail
      rw [HW4.out]
      go_wp2_with fail
      refine Join_calls nw p _ _ _ _ _ HOf4.out.ov.g HOf4.out.ov.s HO4.out.ov.g HO4.out.ov.s (HS.out.up Hb4.out h0) _ (fun w5 u7 u8 hb5 hu7 hu8 => ?_)
      rw [S1.out]
      rw [S2.out] at hu7 hu8
      obtain ⟨A5, n5, rfl, _, _, hu7⟩ := hu7.cases_
      obtain ⟨B5, m5, rfl, _, _, hu8⟩ := hu8.cases_
      have hof5 := HOf4.out.up hb5
      obtain ⟨hput, hbput⟩ := OF.put (V := w3.heap.size) (b := W4.heap.size) hof5.ov.bl hof5.f (blk_lt HOf4.out.f) hu7 hu8
      have hb55 := Hbel4.out.trans ((hb5.mono Hbel4.out.size).trans hbput)
      have Hput := Lib.hid hput
      have Hb55 := Lib.hid hb55
      clear q0 q1 r0 r1 d0 d1
      obtain ⟨q0, q1, y0, y1⟩ := cells_of_block hof5.ov.bl
      obtain ⟨f0, f1, z0, z1⟩ := cells_of_block hof5.f
      have l4 := blk_lt hof5.ov.bl
      have l5 := blk_lt hof5.f
      clear hb5 hu7 hu8 hof5 hput hbput hb55
      go_wp2
      go_roundg (o.sections.length - (k + 1))
      case measure => omega
      case rel => exact ⟨k + 1, _, _, _, _, by omega, hlt, rfl, by go_num, Hput.out, Hb55.out⟩
    · obtain rfl : k = o.sections.length := by omega
      rw [seg_all] at Hof q0 q1
      have j2 : ¬ (o.sections.length : Int) < (o.sections.length : Int) := by omega
      go_wp2_with fail
      refine SameObject_calls o _ _ _ _ _ Hof.out.ov.g Hof.out.ov.s HVr.out.g HVr.out.s _ (fun w6 hb6 => ?_)
      have hfin := Lib.hid (HR.out _ (Hbr.out.trans (hb6.mono Hbr.out.size)))
      clear hb6
      go_wp2
      exact hfin.out

set_option maxRecDepth 100000 in
set_option maxHeartbeats 4000000 in
theorem Joined_calls (raw : List (List Int)) (v : Value) (w : World) (h : rpInt.slice.SL w w.heap.size raw v) (hraw : ∀ l ∈ raw, ∀ x ∈ l, I64 x) (hS : Shapes w) (R : Ending → World → Prop)
    (hR : ∀ w', Below w.heap.size w w' → R (.returned (.bool true)) w') :
    Calls Tryd.prog 11 #[v] w R := by
  have h0 := hS.1
  obtain ⟨A, c, rfl, hm, hcap, h⟩ := h.cases_
  have hok := objOf_ok (raw := raw) (n := 6) (main := false) (by decide) hraw
  obtain ⟨o, ho⟩ : ∃ o, o = objOf raw 6 false := ⟨_, rfl⟩
  rw [← ho] at hok
  have HS := Lib.hid hS
  have HR := Lib.hid hR
  have H := Lib.hid h
  have Hraw := Lib.hid hraw
  have Hok := Lib.hid hok
  have Ho := Lib.hid ho
  clear hS hR h hraw hok ho
  go_enter Tryd.func11, Tryd.ntmps11
  go_wp2_with fail
  refine KitObject_calls raw _ 6 false _ H.out Hraw.out (by decide) _ (fun w1 u1 u2 hb1 hu1 hu2 => ?_)
  rw [← Ho.out] at hu1 hu2
  obtain ⟨A0, n0, e1, _, _, _⟩ := hu1.cases_
  obtain ⟨B0, m0, e2, _, _, _⟩ := hu2.cases_
  obtain ⟨W0, hW0⟩ : ∃ W0, W0 = w1.alloc (Obj.cells #[u1, u2] 25) := ⟨_, rfl⟩
  obtain ⟨hV, hbW, hzW⟩ := OV.one hu1.SL hu2.SL e1 e2 W0 hW0
  subst e1 e2
  have Hb0 := Lib.hid (hb1.trans (hbW.mono hb1.size))
  have HV0 := Lib.hid hV
  have HW0 := Lib.hid hW0.symm
  obtain ⟨p0, p1⟩ := cells_blk hV.bl
  have hl0 : w1.heap.size < W0.heap.size := by omega
  clear hu1 hu2 hb1 hW0 hV hbW hzW
  by_cases hlen : o.sections.length < 3
  · have i0 : (o.sections.length : Int) < 3 := by omega
    clear hlen
    go_wp2_with fail
    rw [HW0.out]
    go_wp2_with fail
    refine Sure_calls _ (HS.out.up Hb0.out h0) _ (fun w2 hb2 => ?_)
    have hfin := Lib.hid (HR.out _ (Hb0.out.trans (hb2.mono Hb0.out.size)))
    clear hb2
    go_wp2
    exact hfin.out
  have i0 : ¬ (o.sections.length : Int) < 3 := by omega
  have hl3 : 3 ≤ o.sections.length := by omega
  clear hlen
  go_wp2_with fail
  rw [HW0.out]
  go_wp2_with fail
  obtain ⟨oa, hoa⟩ : ∃ p, p = segO o 0 1 := ⟨_, rfl⟩
  obtain ⟨ob, hob⟩ : ∃ p, p = segO o 1 2 := ⟨_, rfl⟩
  obtain ⟨oc, hoc⟩ : ∃ p, p = segO o 2 3 := ⟨_, rfl⟩
  obtain ⟨oab, hoab⟩ : ∃ p, p = segO o 0 2 := ⟨_, rfl⟩
  obtain ⟨obc, hobc⟩ : ∃ p, p = segO o 1 3 := ⟨_, rfl⟩
  obtain ⟨ox, hox⟩ : ∃ p, p = segO o 0 3 := ⟨_, rfl⟩
  obtain ⟨g1, g2⟩ := seg_part Hok.out (show 0 < o.sections.length by omega)
  rw [← hoa] at g2
  have G1a := Lib.hid g1
  have G2a := Lib.hid g2
  clear g1 g2
  obtain ⟨g1, g2⟩ := seg_part Hok.out (show 1 < o.sections.length by omega)
  rw [← hob] at g2
  have G1b := Lib.hid g1
  have G2b := Lib.hid g2
  clear g1 g2
  obtain ⟨g1, g2⟩ := seg_part Hok.out (show 2 < o.sections.length by omega)
  rw [← hoc] at g2
  have G1c := Lib.hid g1
  have G2c := Lib.hid g2
  clear g1 g2
  obtain ⟨g1, g2⟩ := seg_join Hok.out (i := 0) (j := 1) (k := 2) (by omega) (by omega) (by omega)
  rw [← hoa, ← hob] at g1 g2
  rw [← hoab] at g2
  have G1ab := Lib.hid g1
  have G2ab := Lib.hid g2
  clear g1 g2
  obtain ⟨g1, g2⟩ := seg_join Hok.out (i := 1) (j := 2) (k := 3) (by omega) (by omega) (by omega)
  rw [← hob, ← hoc] at g1 g2
  rw [← hobc] at g2
  have G1bc := Lib.hid g1
  have G2bc := Lib.hid g2
  clear g1 g2
  obtain ⟨g1, g2⟩ := seg_join Hok.out (i := 0) (j := 2) (k := 3) (by omega) (by omega) (by omega)
  rw [← hoab, ← hoc] at g1 g2
  rw [← hox] at g2
  have G1x := Lib.hid g1
  have G2x := Lib.hid g2
  clear g1 g2
  obtain ⟨g1, g2⟩ := seg_join Hok.out (i := 0) (j := 1) (k := 3) (by omega) (by omega) (by omega)
  rw [← hoa, ← hobc] at g1 g2
  rw [← hox] at g2
  have G1y := Lib.hid g1
  have G2y := Lib.hid g2
  clear g1 g2
  have hx3 : ox.sections.length = 3 := by rw [hox, seg_len]; omega
  have j3 : ((ox.sections.length : Int) == 3) = true := by simp [hx3]
  clear hx3 hoa hob hoc hoab hobc hox
  refine Part_calls o 0 _ _ _ HV0.out.g HV0.out.s (HS.out.up Hb0.out h0) _ (fun wa u1 u2 hb hu1 hu2 => ?_)
  rw [show partF o 0 = (0, 0) from G1a.out]
  rw [show partO o 0 = oa from G2a.out] at hu1 hu2
  obtain ⟨Aa, na, Ba, ma, rfl, rfl, hO, hbW⟩ := OF.new hu1 hu2
  obtain ⟨Wa, hW⟩ : ∃ W, W = (wa.alloc (Obj.cells #[.slice Aa oa.globals.length na, .slice Ba oa.sections.length ma] 25)).alloc (Obj.cells #[.int .i64 0, .int .i64 0] 27) := ⟨_, rfl⟩
  rw [← hW] at hO hbW
  have hbb := hb.trans (hbW.mono hb.size)
  have HW := Lib.hid hW.symm
  have HVa := Lib.hid hO
  have Hba := Lib.hid (Hb0.out.trans (hbb.mono Hb0.out.size))
  replace HV0 := Lib.hid (HV0.out.up hbb)
  clear hu1 hu2 hb hW hO hbW hbb
  go_upto_region 5 with fail
  rw [HW.out]
  clear HW
  clear p0 p1
  obtain ⟨p0, q0⟩ := cells_blk HV0.out.bl
  have l0 := blk_lt HV0.out.bl
  go_wp2_with fail
  refine Part_calls o 1 _ _ _ HV0.out.g HV0.out.s (HS.out.up Hba.out h0) _ (fun wb u1 u2 hb hu1 hu2 => ?_)
  rw [show partF o 1 = (0, 0) from G1b.out]
  rw [show partO o 1 = ob from G2b.out] at hu1 hu2
  obtain ⟨Ab, nb, Bb, mb, rfl, rfl, hO, hbW⟩ := OF.new hu1 hu2
  obtain ⟨Wb, hW⟩ : ∃ W, W = (wb.alloc (Obj.cells #[.slice Ab ob.globals.length nb, .slice Bb ob.sections.length mb] 25)).alloc (Obj.cells #[.int .i64 0, .int .i64 0] 27) := ⟨_, rfl⟩
  rw [← hW] at hO hbW
  have hbb := hb.trans (hbW.mono hb.size)
  have HW := Lib.hid hW.symm
  have HVb := Lib.hid hO
  have Hbb := Lib.hid (Hba.out.trans (hbb.mono Hba.out.size))
  replace HV0 := Lib.hid (HV0.out.up hbb)
  replace HVa := Lib.hid (HVa.out.up hbb)
  clear hu1 hu2 hb hW hO hbW hbb
  go_upto_region 6 with fail
  rw [HW.out]
  clear HW
  clear p0 q0 l0
  obtain ⟨p0, q0⟩ := cells_blk HV0.out.bl
  have l0 := blk_lt HV0.out.bl
  go_wp2_with fail
  refine Part_calls o 2 _ _ _ HV0.out.g HV0.out.s (HS.out.up Hbb.out h0) _ (fun wc u1 u2 hb hu1 hu2 => ?_)
  rw [show partF o 2 = (0, 0) from G1c.out]
  rw [show partO o 2 = oc from G2c.out] at hu1 hu2
  obtain ⟨Ac, nc, Bc, mc, rfl, rfl, hO, hbW⟩ := OF.new hu1 hu2
  obtain ⟨Wc, hW⟩ : ∃ W, W = (wc.alloc (Obj.cells #[.slice Ac oc.globals.length nc, .slice Bc oc.sections.length mc] 25)).alloc (Obj.cells #[.int .i64 0, .int .i64 0] 27) := ⟨_, rfl⟩
  rw [← hW] at hO hbW
  have hbb := hb.trans (hbW.mono hb.size)
  have HW := Lib.hid hW.symm
  have HVc := Lib.hid hO
  have Hbc := Lib.hid (Hbb.out.trans (hbb.mono Hbb.out.size))
  replace HV0 := Lib.hid (HV0.out.up hbb)
  replace HVa := Lib.hid (HVa.out.up hbb)
  replace HVb := Lib.hid (HVb.out.up hbb)
  clear hu1 hu2 hb hW hO hbW hbb
  go_upto_region 7 with fail
  rw [HW.out]
  clear HW
  clear p0 q0 l0
  obtain ⟨p0, q0⟩ := cells_blk HVa.out.ov.bl
  have l0 := blk_lt HVa.out.ov.bl
  obtain ⟨p1, q1⟩ := cells_blk HVb.out.ov.bl
  have l1 := blk_lt HVb.out.ov.bl
  go_wp2_with fail
  refine Join_calls oa ob _ _ _ _ _ HVa.out.ov.g HVa.out.ov.s HVb.out.ov.g HVb.out.ov.s (HS.out.up Hbc.out h0) _ (fun wab u1 u2 hb hu1 hu2 => ?_)
  rw [G1ab.out]
  rw [G2ab.out] at hu1 hu2
  obtain ⟨Aab, nab, Bab, mab, rfl, rfl, hO, hbW⟩ := OF.new hu1 hu2
  obtain ⟨Wab, hW⟩ : ∃ W, W = (wab.alloc (Obj.cells #[.slice Aab oab.globals.length nab, .slice Bab oab.sections.length mab] 25)).alloc (Obj.cells #[.int .i64 0, .int .i64 0] 27) := ⟨_, rfl⟩
  rw [← hW] at hO hbW
  have hbb := hb.trans (hbW.mono hb.size)
  have HW := Lib.hid hW.symm
  have HVab := Lib.hid hO
  have Hbab := Lib.hid (Hbc.out.trans (hbb.mono Hbc.out.size))
  replace HV0 := Lib.hid (HV0.out.up hbb)
  replace HVa := Lib.hid (HVa.out.up hbb)
  replace HVb := Lib.hid (HVb.out.up hbb)
  replace HVc := Lib.hid (HVc.out.up hbb)
  clear hu1 hu2 hb hW hO hbW hbb
  go_upto_region 8 with fail
  rw [HW.out]
  clear HW
  clear p0 q0 l0 p1 q1 l1
  obtain ⟨p0, q0⟩ := cells_blk HVb.out.ov.bl
  have l0 := blk_lt HVb.out.ov.bl
  obtain ⟨p1, q1⟩ := cells_blk HVc.out.ov.bl
  have l1 := blk_lt HVc.out.ov.bl
  go_wp2_with fail
  refine Join_calls ob oc _ _ _ _ _ HVb.out.ov.g HVb.out.ov.s HVc.out.ov.g HVc.out.ov.s (HS.out.up Hbab.out h0) _ (fun wbc u1 u2 hb hu1 hu2 => ?_)
  rw [G1bc.out]
  rw [G2bc.out] at hu1 hu2
  obtain ⟨Abc, nbc, Bbc, mbc, rfl, rfl, hO, hbW⟩ := OF.new hu1 hu2
  obtain ⟨Wbc, hW⟩ : ∃ W, W = (wbc.alloc (Obj.cells #[.slice Abc obc.globals.length nbc, .slice Bbc obc.sections.length mbc] 25)).alloc (Obj.cells #[.int .i64 0, .int .i64 0] 27) := ⟨_, rfl⟩
  rw [← hW] at hO hbW
  have hbb := hb.trans (hbW.mono hb.size)
  have HW := Lib.hid hW.symm
  have HVbc := Lib.hid hO
  have Hbbc := Lib.hid (Hbab.out.trans (hbb.mono Hbab.out.size))
  replace HV0 := Lib.hid (HV0.out.up hbb)
  replace HVa := Lib.hid (HVa.out.up hbb)
  replace HVb := Lib.hid (HVb.out.up hbb)
  replace HVc := Lib.hid (HVc.out.up hbb)
  replace HVab := Lib.hid (HVab.out.up hbb)
  clear hu1 hu2 hb hW hO hbW hbb
  go_upto_region 9 with fail
  rw [HW.out]
  clear HW
  clear p0 q0 l0 p1 q1 l1
  obtain ⟨p0, q0⟩ := cells_blk HVab.out.ov.bl
  have l0 := blk_lt HVab.out.ov.bl
  obtain ⟨p1, q1⟩ := cells_blk HVc.out.ov.bl
  have l1 := blk_lt HVc.out.ov.bl
  go_wp2_with fail
  refine Join_calls oab oc _ _ _ _ _ HVab.out.ov.g HVab.out.ov.s HVc.out.ov.g HVc.out.ov.s (HS.out.up Hbbc.out h0) _ (fun wx u1 u2 hb hu1 hu2 => ?_)
  rw [G1x.out]
  rw [G2x.out] at hu1 hu2
  obtain ⟨Ax, nx, Bx, mx, rfl, rfl, hO, hbW⟩ := OF.new hu1 hu2
  obtain ⟨Wx, hW⟩ : ∃ W, W = (wx.alloc (Obj.cells #[.slice Ax ox.globals.length nx, .slice Bx ox.sections.length mx] 25)).alloc (Obj.cells #[.int .i64 0, .int .i64 0] 27) := ⟨_, rfl⟩
  rw [← hW] at hO hbW
  have hbb := hb.trans (hbW.mono hb.size)
  have HW := Lib.hid hW.symm
  have HVx := Lib.hid hO
  have Hbx := Lib.hid (Hbbc.out.trans (hbb.mono Hbbc.out.size))
  replace HV0 := Lib.hid (HV0.out.up hbb)
  replace HVa := Lib.hid (HVa.out.up hbb)
  replace HVb := Lib.hid (HVb.out.up hbb)
  replace HVc := Lib.hid (HVc.out.up hbb)
  replace HVab := Lib.hid (HVab.out.up hbb)
  replace HVbc := Lib.hid (HVbc.out.up hbb)
  clear hu1 hu2 hb hW hO hbW hbb
  go_upto_region 10 with fail
  rw [HW.out]
  clear HW
  clear p0 q0 l0 p1 q1 l1
  obtain ⟨p0, q0⟩ := cells_blk HVa.out.ov.bl
  have l0 := blk_lt HVa.out.ov.bl
  obtain ⟨p1, q1⟩ := cells_blk HVbc.out.ov.bl
  have l1 := blk_lt HVbc.out.ov.bl
  go_wp2_with fail
  refine Join_calls oa obc _ _ _ _ _ HVa.out.ov.g HVa.out.ov.s HVbc.out.ov.g HVbc.out.ov.s (HS.out.up Hbx.out h0) _ (fun wy u1 u2 hb hu1 hu2 => ?_)
  rw [G1y.out]
  rw [G2y.out] at hu1 hu2
  obtain ⟨Ay, ny, By, my, rfl, rfl, hO, hbW⟩ := OF.new hu1 hu2
  obtain ⟨Wy, hW⟩ : ∃ W, W = (wy.alloc (Obj.cells #[.slice Ay ox.globals.length ny, .slice By ox.sections.length my] 25)).alloc (Obj.cells #[.int .i64 0, .int .i64 0] 27) := ⟨_, rfl⟩
  rw [← hW] at hO hbW
  have hbb := hb.trans (hbW.mono hb.size)
  have HW := Lib.hid hW.symm
  have HVy := Lib.hid hO
  have Hby := Lib.hid (Hbx.out.trans (hbb.mono Hbx.out.size))
  replace HV0 := Lib.hid (HV0.out.up hbb)
  replace HVa := Lib.hid (HVa.out.up hbb)
  replace HVb := Lib.hid (HVb.out.up hbb)
  replace HVc := Lib.hid (HVc.out.up hbb)
  replace HVab := Lib.hid (HVab.out.up hbb)
  replace HVbc := Lib.hid (HVbc.out.up hbb)
  replace HVx := Lib.hid (HVx.out.up hbb)
  clear hu1 hu2 hb hW hO hbW hbb
  go_upto_region 11 with fail
  rw [HW.out]
  clear HW
  clear p0 q0 l0 p1 q1 l1
  obtain ⟨f0, _⟩ := cells_blk HVa.out.f
  have t0 := blk_lt HVa.out.f
  obtain ⟨f1, _⟩ := cells_blk HVb.out.f
  have t1 := blk_lt HVb.out.f
  obtain ⟨f2, _⟩ := cells_blk HVc.out.f
  have t2 := blk_lt HVc.out.f
  obtain ⟨f3, _⟩ := cells_blk HVab.out.f
  have t3 := blk_lt HVab.out.f
  obtain ⟨f4, _⟩ := cells_blk HVbc.out.f
  have t4 := blk_lt HVbc.out.f
  obtain ⟨f5, _⟩ := cells_blk HVx.out.f
  have t5 := blk_lt HVx.out.f
  obtain ⟨f6, _⟩ := cells_blk HVy.out.f
  have t6 := blk_lt HVy.out.f
  obtain ⟨p0, q0⟩ := cells_blk HVx.out.ov.bl
  have l0 := blk_lt HVx.out.ov.bl
  obtain ⟨p1, q1⟩ := cells_blk HVy.out.ov.bl
  have l1 := blk_lt HVy.out.ov.bl
  go_wp2_with fail
  refine SameObject_calls ox _ _ _ _ _ HVx.out.ov.g HVx.out.ov.s HVy.out.ov.g HVy.out.ov.s _ (fun w6 hb6 => ?_)
  have hq := HVx.out.up hb6
  clear p0 q0
  obtain ⟨p0, q0⟩ := cells_blk hq.ov.bl
  have l6 := blk_lt hq.ov.bl
  have hfin := Lib.hid (HR.out _ (Hby.out.trans (hb6.mono Hby.out.size)))
  clear hb6 hq
  go_wp2
  exact hfin.out
end Go.Proofs.YtkodcoianakjoaaDoor
