/- Are two lists of globals the same: the document's SameGlobals. Are two objects the same: the document's SameObject, of two readings of one. -/
import Derived.Test.YtfhnmbnniklmiaaDoorBase
import Derived.Test.YtfhnmbnniklmiaaDoorRows
import Derived.IntWalk
import Derived.Deep.LoopGhost
import Derived.Deep.CutBlock
import Derived.Deep.DeepCutAuto
import Derived.Outline
import Derived.Test.YtfhnmbnniklmiaaDoorPlainA
import Derived.Test.YtfhnmbnniklmiaaDoorGlobA
import Derived.Test.YtfhnmbnniklmiaaDoorCopyA
/- Are two lists of globals the same: the document's SameGlobals. -/
namespace Go.Proofs.YtfhnmbnniklmiaaDoor
open Go.RowKit
set_option linter.unusedSimpArgs false
set_option linter.unusedVariables false

theorem Global.ext_ {x y : Global} (h1 : x.name = y.name) (h2 : x.size = y.size) (h3 : x.init = y.init) : x = y := by
  cases x
  cases y
  simp_all
instance : DecidableEq Global := fun x y => if h : x.name = y.name ∧ x.size = y.size ∧ x.init = y.init then isTrue (Global.ext_ h.1 h.2.1 h.2.2) else isFalse (fun e => h (by rw [e]; exact ⟨rfl, rfl, rfl⟩))
def sameG (a b : List Global) : Bool := decide (a = b)
theorem sameG_no {a b : List Global} (h : a ≠ b) : sameG a b = false := decide_eq_false h
theorem sameG_yes (a : List Global) : sameG a a = true := decide_eq_true rfl
theorem ne_of_at {α : Type} {a b : List α} {k : Nat} {x y : α} (hx : a[k]? = some x) (hy : b[k]? = some y) (h : x ≠ y) : a ≠ b := by
  rintro rfl
  rw [hx] at hy
  exact h (Option.some.inj hy)
theorem take_eq_step {α : Type} {a b : List α} {k : Nat} {x : α} (hx : a[k]? = some x) (hy : b[k]? = some x) (h : a.take k = b.take k) : a.take (k + 1) = b.take (k + 1) := by
  obtain ⟨h1, e1⟩ := List.getElem?_eq_some_iff.1 hx
  obtain ⟨h2, e2⟩ := List.getElem?_eq_some_iff.1 hy
  rw [List.take_succ_eq_append_getElem h1, List.take_succ_eq_append_getElem h2, h, e1, e2]

set_option maxRecDepth 100000 in
set_option maxHeartbeats 4000000 in
theorem SameGlobals_calls (a b : List Global) (v1 v2 : Value) (w : World) (h1 : rpGlobal.SL w w.heap.size a v1) (h2 : rpGlobal.SL w w.heap.size b v2) (R : Ending → World → Prop)
    (hR : ∀ w', Below w.heap.size w w' → R (.returned (.bool (sameG a b))) w') :
    Calls Tryd.prog 44 #[v1, v2] w R := by
  obtain ⟨A1, n1, rfl, hm1, hcap1, h1⟩ := h1.cases_
  obtain ⟨A2, n2, rfl, hm2, hcap2, h2⟩ := h2.cases_
  have HR := Lib.hid hR
  have H1 := Lib.hid h1
  have H2 := Lib.hid h2
  clear hR h1 h2
  by_cases hlen : a.length = b.length
  rotate_left
  · have hno : ((a.length : Int) != (b.length : Int)) = true := by simp; omega
    have hr := HR.out w (Below.refl _ _)
    rw [sameG_no (fun e => hlen (by rw [e]))] at hr
    clear hlen
    go_enter Tryd.func44, Tryd.ntmps44
    go_wp2
    exact hr
  · have HN : Hid (∀ w', a ≠ b → Below w.heap.size w w' → R (.returned (.bool false)) w') := Lib.hid fun w' h hb => by
      have := HR.out w' hb
      rwa [sameG_no h] at this
    have hlb : (b.length : Int) = (a.length : Int) := by omega
    rw [← hlen] at H2 hm2 hcap2 ⊢
    have Hlen := Lib.hid hlen
    clear hlen hlb
    go_enter Tryd.func44, Tryd.ntmps44
    go_wp2
    go_loopg [5, 6] a.length (fun g i s6 wr => ∃ k : Nat, k ≤ a.length ∧ g = a.length - k ∧ i = .int .i64 k ∧ a.take k = b.take k ∧ Below w.heap.size w wr)
    case atStart => exact ⟨0, Nat.zero_le _, rfl, rfl, rfl, Below.refl _ _⟩
    case round =>
      obtain ⟨k, hk, rfl, rfl, ht, hbel⟩ := hrel
      have Ht := Lib.hid ht
      have Hb := Lib.hid hbel
      have hz := hbel.size
      have i1 : (0 : Int) ≤ (k : Int) := Int.natCast_nonneg _
      clear ht
      by_cases hlt : k < a.length
      · obtain ⟨b1, o1, x, w1, rfl, hb1, e1, h1, q0, q1, q2⟩ := H1.out.global_at hlt
        obtain ⟨b2, o2, y, w2, rfl, hb2, e2, h2, r0, r1, r2⟩ := H2.out.global_at (k := k) (by rw [← Hlen.out]; exact hlt)
        obtain ⟨A3, n3, rfl, hm3, hcap3, h1⟩ := h1.cases_
        obtain ⟨A4, n4, rfl, hm4, hcap4, h2⟩ := h2.cases_
        have p0 := (hbel.cell (p := ⟨b1, o1 + k * 3, none⟩) hb1).trans q0
        have p1 := (hbel.cell (p := ⟨b1, o1 + k * 3 + 1, none⟩) hb1).trans q1
        have p2 := (hbel.cell (p := ⟨b1, o1 + k * 3 + 2, none⟩) hb1).trans q2
        have s0 := (hbel.cell (p := ⟨b2, o2 + k * 3, none⟩) hb2).trans r0
        have s1 := (hbel.cell (p := ⟨b2, o2 + k * 3 + 1, none⟩) hb2).trans r1
        have s2 := (hbel.cell (p := ⟨b2, o2 + k * 3 + 2, none⟩) hb2).trans r2
        have i2 : (k : Int) < (a.length : Int) := by omega
        have H3 := Lib.hid h1
        have H4 := Lib.hid h2
        have E1 := Lib.hid e1
        have E2 := Lib.hid e2
        have HX : Hid (x ≠ y → ∀ w', Below w.heap.size w w' → R (.returned (.bool false)) w') := Lib.hid fun h w' hb => HN.out w' (ne_of_at E1.out E2.out h) hb
        have Q2 := Lib.hid q2
        have R2 := Lib.hid r2
        clear q0 q1 q2 r0 r1 r2 e1 e2 h1 h2 hbel
        by_cases hn : x.name = y.name
        rotate_left
        · have hX := Lib.hid (HX.out (fun e => hn (by rw [e])))
          have hnb : (x.name.toList == y.name.toList) = false := by rw [name_eq]; simp [hn]
          clear hn
          go_wp2
          go_quiet (fail)
          go_wp2
          have hb := Hb.out
          refine hX.out _ ?_
          exact bl0
        by_cases hs : x.size = y.size
        rotate_left
        · have hX := Lib.hid (HX.out (fun e => hs (by rw [e])))
          have hnb : (x.name.toList == y.name.toList) = true := by rw [name_eq]; simp [hn]
          have hsb : (x.size != y.size) = true := by simp [hs]
          clear hn hs
          go_wp2
          go_quiet (fail)
          go_wp2
          have hb := Hb.out
          refine hX.out _ ?_
          exact bl0
        by_cases hl : x.init.length = y.init.length
        rotate_left
        · have hX := Lib.hid (HX.out (fun e => hl (by rw [e])))
          have hnb : (x.name.toList == y.name.toList) = true := by rw [name_eq]; simp [hn]
          have hsb : (x.size != y.size) = false := by simp [hs]
          have hlb : ((x.init.length : Int) != (y.init.length : Int)) = true := by simp; omega
          clear hn hs hl
          go_wp2
          go_quiet (fail)
          go_wp2
          have hb := Hb.out
          refine hX.out _ ?_
          exact bl0
        have hnb : (x.name.toList == y.name.toList) = true := by rw [name_eq]; simp [hn]
        have hsb : (x.size != y.size) = false := by simp [hs]
        have hlb : ((x.init.length : Int) != (y.init.length : Int)) = false := by simp; omega
        have HE := Lib.hid (And.intro hn (And.intro hs hl))
        clear hn hs hl
        go_wp2
        go_quiet (fail)
        go_wp2
        clear p0 p1 p2 s0 s1 s2 hnb hsb hlb
        have hl : x.init.length = y.init.length := HE.out.2.2
        rw [← hl] at H4 hm4 hcap4 R2
        have Hl := Lib.hid hl
        clear hl
        go_loopg [6] x.init.length (fun g i wi => ∃ j : Nat, j ≤ x.init.length ∧ g = x.init.length - j ∧ i = .int .i64 j ∧ x.init.take j = y.init.take j ∧ Below w.heap.size w wi)
        case atStart =>
          have hb := Hb.out
          refine ⟨0, Nat.zero_le _, rfl, rfl, rfl, ?_⟩
          exact bl0
        case round =>
          rename World => wi
          obtain ⟨j, hj, rfl, rfl, ht, hbel⟩ := hrel
          have Ht2 := Lib.hid ht
          have Hb2 := Lib.hid hbel
          have p2 := (hbel.cell (p := ⟨b1, o1 + k * 3 + 2, none⟩) hb1).trans Q2.out
          have s2 := (hbel.cell (p := ⟨b2, o2 + k * 3 + 2, none⟩) hb2).trans R2.out
          have j1 : (0 : Int) ≤ (j : Int) := Int.natCast_nonneg _
          clear ht
          by_cases hlt2 : j < x.init.length
          · have hj2 : j < y.init.length := by have := Hl.out; omega
            have j2 : (j : Int) < (x.init.length : Int) := by omega
            obtain ⟨b3, o3, rfl, hb3, q3⟩ := H3.out.int_at hlt2
            obtain ⟨b4, o4, rfl, hb4, q4⟩ := H4.out.int_at (k := j) hj2
            have p3 := (hbel.cell (p := ⟨b3, o3 + j, none⟩) hb3).trans q3
            have p4 := (hbel.cell (p := ⟨b4, o4 + j, none⟩) hb4).trans q4
            have g3 : x.init[j]? = some (x.init.getD j 0) := by rw [List.getD_eq_getElem?_getD, List.getElem?_eq_getElem hlt2]; rfl
            have g4 : y.init[j]? = some (y.init.getD j 0) := by rw [List.getD_eq_getElem?_getD, List.getElem?_eq_getElem hj2]; rfl
            have G3 := Lib.hid g3
            have G4 := Lib.hid g4
            clear q3 q4 hbel g3 g4
            generalize x.init.getD j 0 = m at *
            generalize y.init.getD j 0 = n at *
            by_cases hmn : m = n
            · subst hmn
              go_wp2
              go_quiet (fail)
              go_wp2
              go_roundg (x.init.length - (j + 1))
              case measure => omega
              case rel =>
                have hb := Hb2.out
                refine ⟨j + 1, hlt2, rfl, by go_num, take_eq_step G3.out G4.out Ht2.out, ?_⟩
                exact bl0
            · have hX := Lib.hid (HX.out (fun e => ne_of_at G3.out G4.out hmn (by rw [e])))
              have hmb : (m != n) = true := by simp [hmn]
              clear hmn
              go_wp2
              go_quiet (fail)
              go_wp2
              have hb := Hb2.out
              refine hX.out _ ?_
              exact bl0
          · obtain rfl : j = x.init.length := by omega
            have hxy : x = y := Global.ext_ HE.out.1 HE.out.2.1 (by
              have := Ht2.out
              rw [List.take_length, Hl.out, List.take_length] at this
              exact this)
            have hst : a.take (k + 1) = b.take (k + 1) := take_eq_step E1.out (hxy ▸ E2.out) Ht.out
            have Hst := Lib.hid hst
            clear hxy hst hbel
            go_wp2
            go_roundg (a.length - (k + 1))
            case measure => omega
            case rel => exact ⟨k + 1, hlt, rfl, by go_num, Hst.out, Hb2.out⟩
      · obtain rfl : k = a.length := by omega
        go_wp2
        have he : a = b := by
          have := Ht.out
          rw [List.take_length, Hlen.out, List.take_length] at this
          exact this
        have := HR.out _ Hb.out
        rw [← he, sameG_yes] at this
        exact this
end Go.Proofs.YtfhnmbnniklmiaaDoor

/- Are two objects the same: the document's SameObject, of two readings of one. -/
namespace Go.Proofs.YtfhnmbnniklmiaaDoor
open Go.RowKit
set_option linter.unusedSimpArgs false
set_option linter.unusedVariables false

theorem neq_Mend (n : Int) (s : ByteArray) (w : World) : (binOp .neq 69 (.agg #[.int .i64 n, .string s]) (.agg #[.int .i64 n, .string s])).run Tryd.prog w = .ok (.bool false) w := by
  have hp : Tryd.prog.stoodInHeld 69 = false := by kernel_rfl
  have ht : Tryd.prog.underlying 69 = some (.struct (Tryd.prog.fieldsOf 69)) := by kernel_rfl
  rw [run_neq_struct, run_equalIn_agg _ _ _ _ _ ht hp]
  have h3 := Tryd.underlying3
  have h9 := Tryd.underlying9
  simp [Tryd.underlying69, go_sem, h3, h9]

set_option maxRecDepth 100000 in
set_option maxHeartbeats 4000000 in
theorem SameObject_calls (o : Object) (v1 v2 v3 v4 : Value) (w : World) (h1 : rpGlobal.SL w w.heap.size o.globals v1) (h2 : rpSection.SL w w.heap.size o.sections v2) (h3 : rpGlobal.SL w w.heap.size o.globals v3) (h4 : rpSection.SL w w.heap.size o.sections v4) (R : Ending → World → Prop)
    (hR : ∀ w', Below w.heap.size w w' → R (.returned (.bool true)) w') :
    Calls Tryd.prog 24 #[.agg #[v1, v2], .agg #[v3, v4]] w R := by
  obtain ⟨A1, n1, rfl, hm1, hcap1, h1⟩ := h1.cases_
  obtain ⟨A2, n2, rfl, hm2, hcap2, h2⟩ := h2.cases_
  obtain ⟨A3, n3, rfl, hm3, hcap3, h3⟩ := h3.cases_
  obtain ⟨A4, n4, rfl, hm4, hcap4, h4⟩ := h4.cases_
  have HR := Lib.hid hR
  have H1 := Lib.hid h1
  have H2 := Lib.hid h2
  have H3 := Lib.hid h3
  have H4 := Lib.hid h4
  obtain ⟨W0, hW0⟩ : ∃ W0, W0 = (w.alloc (Obj.cells #[.slice A1 o.globals.length n1, .slice A2 o.sections.length n2] 47)).alloc (Obj.cells #[.slice A3 o.globals.length n3, .slice A4 o.sections.length n4] 47) := ⟨_, rfl⟩
  have hb0 : Below w.heap.size w W0 := by subst hW0; exact bl0
  have hz0 : W0.heap.size = w.heap.size + 2 := by subst hW0; simp
  have hP : W0.heap[w.heap.size]? = some (.cells #[.slice A1 o.globals.length n1, .slice A2 o.sections.length n2] 47 (0, 0)) := by
    subst hW0
    exact blk_alloc (heap_alloc_new _ _) _
  have hQ : W0.heap[w.heap.size + 1]? = some (.cells #[.slice A3 o.globals.length n3, .slice A4 o.sections.length n4] 47 (0, 0)) := by
    subst hW0
    have := heap_alloc_new (w.alloc (Obj.cells #[.slice A1 o.globals.length n1, .slice A2 o.sections.length n2] 47)) (Obj.cells #[.slice A3 o.globals.length n3, .slice A4 o.sections.length n4] 47)
    simpa using this
  obtain ⟨p0, p1⟩ := cells_blk hP
  obtain ⟨q0, q1⟩ := cells_blk hQ
  have HP := Lib.hid hP
  have HQ := Lib.hid hQ
  have HW := Lib.hid hW0.symm
  have Hb0 := Lib.hid hb0
  have Hz0 := Lib.hid hz0
  clear hR h1 h2 h3 h4 hP hQ hb0 hz0 hW0
  go_enter Tryd.func24, Tryd.ntmps24
  go_wp2_with fail
  rw [HW.out]
  refine SameGlobals_calls o.globals o.globals _ _ _ (H1.out.up Hb0.out Hb0.out.size) (H3.out.up Hb0.out Hb0.out.size) _ (fun w1 hb1 => ?_)
  rw [sameG_yes]
  have hz1 := hb1.size
  rw [Hz0.out] at hb1 hz1
  have hbel : Below (w.heap.size + 2) W0 w1 := hb1
  obtain ⟨p0, p1⟩ := cells_blk ((hb1.block _ (by omega)).trans HP.out)
  obtain ⟨q0, q1⟩ := cells_blk ((hb1.block _ (by omega)).trans HQ.out)
  have Hb1 := Lib.hid hbel
  have HK : Hid (∀ W, Below (w.heap.size + 2) W0 W → Below w.heap.size w W) := Lib.hid fun W h => Hb0.out.trans (h.mono (by omega))
  clear hb1 hbel HW
  go_wp2
  go_loopg [5, 6, 7, 8] o.sections.length (fun g i s6 s7 s8 wr => ∃ k : Nat, k ≤ o.sections.length ∧ g = o.sections.length - k ∧ i = .int .i64 k ∧ Below (w.heap.size + 2) W0 wr)
  case atStart => exact ⟨0, Nat.zero_le _, rfl, rfl, Hb1.out⟩
  case round =>
    obtain ⟨k, hk, rfl, rfl, hbel⟩ := hrel
    have hz := hbel.size
    rw [Hz0.out] at hz
    have hbw := HK.out _ hbel
    obtain ⟨p0, p1⟩ := cells_blk ((hbel.block _ (by omega)).trans HP.out)
    obtain ⟨q0, q1⟩ := cells_blk ((hbel.block _ (by omega)).trans HQ.out)
    have Hb := Lib.hid hbel
    have i1 : (0 : Int) ≤ (k : Int) := Int.natCast_nonneg _
    have hzw : w.heap.size < wr.heap.size := by omega
    have hzw1 : w.heap.size + 1 < wr.heap.size := by omega
    by_cases hlt : k < o.sections.length
    · obtain ⟨b1, o1, x, w1, w2, rfl, hb1, e1, g1, g2, q0, q1, q2⟩ := H2.out.section_at hlt
      obtain ⟨b2, o2, y, w3, w4, rfl, hb2, e2, g3, g4, r0, r1, r2⟩ := H4.out.section_at hlt
      obtain rfl : x = y := Option.some.inj (e1.symm.trans e2)
      obtain ⟨A5, n5, rfl, hm5, hcap5, g1⟩ := g1.cases_
      obtain ⟨A6, n6, rfl, hm6, hcap6, g2⟩ := g2.cases_
      obtain ⟨A7, n7, rfl, hm7, hcap7, g3⟩ := g3.cases_
      obtain ⟨A8, n8, rfl, hm8, hcap8, g4⟩ := g4.cases_
      have s0 := (hbw.cell (p := ⟨b1, o1 + k * 3, none⟩) hb1).trans q0
      have s1 := (hbw.cell (p := ⟨b1, o1 + k * 3 + 1, none⟩) hb1).trans q1
      have s2 := (hbw.cell (p := ⟨b1, o1 + k * 3 + 2, none⟩) hb1).trans q2
      have t0 := (hbw.cell (p := ⟨b2, o2 + k * 3, none⟩) hb2).trans r0
      have t1 := (hbw.cell (p := ⟨b2, o2 + k * 3 + 1, none⟩) hb2).trans r1
      have t2 := (hbw.cell (p := ⟨b2, o2 + k * 3 + 2, none⟩) hb2).trans r2
      have i2 : (k : Int) < (o.sections.length : Int) := by omega
      have hb1' : b1 < wr.heap.size := by omega
      have hb2' : b2 < wr.heap.size := by omega
      have hW2 : Below (w.heap.size + 2) W0 ((wr.alloc (Obj.cells #[.string x.name, .slice A5 x.code.length n5, .slice A6 x.mends.length n6] 64)).alloc (Obj.cells #[.string x.name, .slice A7 x.code.length n7, .slice A8 x.mends.length n8] 64)) := (hbel.alloc (by omega) _).alloc (by simp; omega) _
      have hbw2 := HK.out _ hW2
      have k1 := conv_bytes (P := Tryd.prog) Tryd.underlying39 Tryd.underlying5 Tryd.underlying9 (g1.up (B' := wr.heap.size + 2) hbw2 (by omega))
      have k2 := conv_bytes (P := Tryd.prog) Tryd.underlying39 Tryd.underlying5 Tryd.underlying9 (g3.up (B' := wr.heap.size + 2) hbw2 (by omega))
      have HV1 : Hid (((wr.alloc (Obj.cells #[.string x.name, .slice A5 x.code.length n5, .slice A6 x.mends.length n6] 64)).alloc (Obj.cells #[.string x.name, .slice A7 x.code.length n7, .slice A8 x.mends.length n8] 64)).heap[wr.heap.size]? = some (.cells #[.string x.name, .slice A5 x.code.length n5, .slice A6 x.mends.length n6] 64 (0, 0))) := Lib.hid (blk_alloc (heap_alloc_new _ _) _)
      have HV2 : Hid (((wr.alloc (Obj.cells #[.string x.name, .slice A5 x.code.length n5, .slice A6 x.mends.length n6] 64)).alloc (Obj.cells #[.string x.name, .slice A7 x.code.length n7, .slice A8 x.mends.length n8] 64)).heap[wr.heap.size + 1]? = some (.cells #[.string x.name, .slice A7 x.code.length n7, .slice A8 x.mends.length n8] 64 (0, 0))) := Lib.hid (by
        have := heap_alloc_new (wr.alloc (Obj.cells #[.string x.name, .slice A5 x.code.length n5, .slice A6 x.mends.length n6] 64)) (Obj.cells #[.string x.name, .slice A7 x.code.length n7, .slice A8 x.mends.length n8] 64)
        simpa using this)
      have HW2 := Lib.hid hW2
      have hs2 : ((wr.alloc (Obj.cells #[.string x.name, .slice A5 x.code.length n5, .slice A6 x.mends.length n6] 64)).alloc (Obj.cells #[.string x.name, .slice A7 x.code.length n7, .slice A8 x.mends.length n8] 64)).heap.size = wr.heap.size + 2 := by simp
      have Hs2 := Lib.hid hs2
      have G2 := Lib.hid g2
      have G4 := Lib.hid g4
      clear q0 q1 q2 r0 r1 r2 e1 e2 g1 g2 g3 g4 hbel hbw hbw2 hW2 hs2
      go_wp2
      obtain ⟨W2, hX⟩ : ∃ W2, W2 = (wr.alloc (Obj.cells #[.string x.name, .slice A5 x.code.length n5, .slice A6 x.mends.length n6] 64)).alloc (Obj.cells #[.string x.name, .slice A7 x.code.length n7, .slice A8 x.mends.length n8] 64) := ⟨_, rfl⟩
      rw [← hX] at HV1 HV2 HW2 Hs2 ⊢
      clear hX k1 k2 s0 s1 s2 t0 t1 t2 p0 p1 q0 q1
      go_loopg [8] x.mends.length (fun g i wi => ∃ j : Nat, j ≤ x.mends.length ∧ g = x.mends.length - j ∧ i = .int .i64 j ∧ Below (wr.heap.size + 2) W2 wi)
      case atStart => exact ⟨0, Nat.zero_le _, rfl, rfl, Below.refl _ _⟩
      case round =>
        rename World => wi
        obtain ⟨j, hj, rfl, rfl, hbel⟩ := hrel
        have hzi := hbel.size
        rw [Hs2.out] at hzi
        have hV1 := (hbel.block _ (by omega)).trans HV1.out
        have hV2 := (hbel.block _ (by omega)).trans HV2.out
        have a1 : wi.cell? ⟨wr.heap.size, 2, none⟩ = some (.slice A6 x.mends.length n6) := by simp [World.cell?, hV1]
        have a2 : wi.cell? ⟨wr.heap.size + 1, 2, none⟩ = some (.slice A8 x.mends.length n8) := by simp [World.cell?, hV2]
        have hbi : Below (w.heap.size + 2) W0 wi := HW2.out.trans (hbel.mono (by omega))
        have hbw := HK.out _ hbi
        have Hbi := Lib.hid hbi
        have Hb2 := Lib.hid hbel
        have j1 : (0 : Int) ≤ (j : Int) := Int.natCast_nonneg _
        clear hV1 hV2 hbi hbel
        by_cases hlt2 : j < x.mends.length
        · obtain ⟨b3, o3, m, rfl, hb3, e3, q3, q4⟩ := G2.out.mend_at hlt2
          obtain ⟨b4, o4, n, rfl, hb4, e4, q5, q6⟩ := G4.out.mend_at hlt2
          obtain rfl : m = n := Option.some.inj (e3.symm.trans e4)
          have s3 := (hbw.cell (p := ⟨b3, o3 + j * 2, none⟩) hb3).trans q3
          have s4 := (hbw.cell (p := ⟨b3, o3 + j * 2 + 1, none⟩) hb3).trans q4
          have s5 := (hbw.cell (p := ⟨b4, o4 + j * 2, none⟩) hb4).trans q5
          have s6 := (hbw.cell (p := ⟨b4, o4 + j * 2 + 1, none⟩) hb4).trans q6
          have j2 : (j : Int) < (x.mends.length : Int) := by omega
          have hq : ∀ w, (binOp .neq 69 (.agg #[.int .i64 m.at_, .string m.name]) (.agg #[.int .i64 m.at_, .string m.name])).run Tryd.prog w = .ok (.bool false) w := fun w => neq_Mend m.at_ m.name w
          clear q3 q4 q5 q6 e3 e4 hbw
          go_wp2
          go_quiet (fail)
          go_wp2
          go_roundg (x.mends.length - (j + 1))
          case measure => omega
          case rel =>
            have hb := Hb2.out
            refine ⟨j + 1, hlt2, rfl, by go_num, ?_⟩
            exact bl0
        · obtain rfl : j = x.mends.length := by omega
          clear hbw
          go_wp2
          go_roundg (o.sections.length - (k + 1))
          case measure => omega
          case rel => exact ⟨k + 1, hlt, rfl, by go_num, Hbi.out⟩
    · obtain rfl : k = o.sections.length := by omega
      have hr := HR.out _ hbw
      clear hbw hbel
      go_wp2
      exact hr
end Go.Proofs.YtfhnmbnniklmiaaDoor
