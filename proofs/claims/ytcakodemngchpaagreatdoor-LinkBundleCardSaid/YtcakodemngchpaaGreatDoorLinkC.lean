/- link.mended: a function's code, its calls set to the places of what they call. link.Do: the objects linked. -/
import Derived.Test.YtcakodemngchpaaGreatDoorBase
import Derived.Test.YtcakodemngchpaaGreatDoorRows
import Derived.IntWalk
import Derived.Deep.LoopGhost
import Derived.Deep.CutBlock
import Derived.Deep.DeepCutAuto
import Derived.Deep.RegionHeld3
import Derived.Outline
import Derived.Test.YtcakodemngchpaaGreatDoorLinkB
import Derived.Test.YtcakodemngchpaaGreatDoorLinkY
import Derived.Test.YtcakodemngchpaaGreatDoorReadC
/- link.mended: a function's code, its calls set to the places of what they call. -/
namespace Go.Proofs.YtcakodemngchpaaGreatDoor
open Go.RowKit
set_option linter.unusedSimpArgs false
set_option linter.unusedVariables false

theorem flat_put (n : Int) : ∀ (l : List Mac) (k : Nat), k < l.length → (l.flatMap Mac.cells).take (k * 5 + 4) ++ [(Value.int .i64 n)] ++ (l.flatMap Mac.cells).drop (k * 5 + 4 + 1) = (toCall l k n).flatMap Mac.cells
  | [], k, h => by simp at h
  | m :: l, 0, _ => by simp [toCall, Mac.cells]
  | m :: l, k + 1, h => by
    have ih := flat_put n l k (by simpa using h)
    have e : toCall (m :: l) (k + 1) n = m :: toCall l k n := by simp [toCall]
    rw [e, List.flatMap_cons, List.flatMap_cons, ← ih, show (k + 1) * 5 + 4 + 1 = (Mac.cells m).length + (k * 5 + 4 + 1) from by simp [Mac.cells]; omega, show (k + 1) * 5 + 4 = (Mac.cells m).length + (k * 5 + 4) from by simp [Mac.cells]; omega, List.take_length_add_append, List.drop_length_add_append]
    simp
theorem own_mac_put {w : World} {base g cap k N : Nat} {l : List Mac} (h : w.ownsRow base 54 5 (.slice (some ⟨g, 0, none⟩) N cap) N (l.flatMap Mac.cells)) (hN : l.length = N) (hk : k < N) (n : Int) :
    (w.setCell ⟨g, k * 5 + 4, none⟩ (.int .i64 n)).ownsRow base 54 5 (.slice (some ⟨g, 0, none⟩) N cap) N ((toCall l k n).flatMap Mac.cells) := by
  subst hN
  have := own_setCells (vs := [.int .i64 n]) (o := k * 5 + 4) h (by simp; omega) (Nat.le_refl _) ((toCall l k n).flatMap Mac.cells) (by
    show ((l.flatMap Mac.cells).take (k * 5 + 4) ++ [Value.int .i64 n] ++ (l.flatMap Mac.cells).drop (k * 5 + 4 + 1)).take (l.length * 5) = _
    rw [flat_put n l k hk, List.take_of_length_le]
    rw [flat_length Mac.cells 5 (fun _ => rfl), toCall_len]
    exact Nat.le_refl _)
  exact this

theorem Buf.more_ {w : World} {base base' : Nat} {v : Value} {bs : List UInt8} (h : Buf w base v bs) (hb : base' ≤ base) : Buf w base' v bs := by
  rcases h with h | ⟨h1, h2, g, cur, fr, h3, h4, h5⟩
  · obtain ⟨h1, h2⟩ := h
    refine .inl ⟨h1, ?_⟩
    rcases h2 with h2 | ⟨g, cap, cur, e1, e2, e3⟩
    · exact .inl h2
    · exact .inr ⟨g, cap, cur, e1, Nat.le_trans hb e2, e3⟩
  · exact .inr ⟨h1, h2, g, cur, fr, h3, Nat.le_trans hb h4, h5⟩

set_option maxRecDepth 100000 in
set_option maxHeartbeats 4000000 in
theorem mended_calls (order : List ByteArray) (s : Section) (w0 w : World) (hb : Below w0.heap.size w0 w) (X : Nat) (g0 m0 u0 : Value) (A6 : Option Addr) (c6 : Nat) (hX : w.heap[X]? = some (.cells #[g0, m0, .slice A6 order.length c6, u0] 74 (0, 0))) (hord : rpStr.SL w w.heap.size order (.slice A6 order.length c6)) (hfew : order.length ≤ 480)
    (A1 : Option Addr) (c1 : Nat) (A2 : Option Addr) (c2 : Nat) (hcode : rpByte.SL w0 w0.heap.size s.code (.slice A1 s.code.length c1)) (hmends : rpMend.SL w0 w0.heap.size s.mends (.slice A2 s.mends.length c2)) (hsec : secF s = 0) (hS : Shapes w) (R : Ending → World → Prop)
    (hsome : ∀ c, routB order s = some c → ∀ w' v, Below w.heap.size w w' → Buf w' w.heap.size v c → R (.returned (.tuple #[v, .bool true])) w')
    (hnone : routB order s = none → ∀ w', Below w.heap.size w w' → R (.returned (.tuple #[.slice none 0 0, .bool false])) w') :
    Calls Tryz.prog 23 #[.pointer (some ⟨X, 0, none⟩), .agg #[.string s.name, .slice A1 s.code.length c1, .slice A2 s.mends.length c2]] w R := by
  have h0 := hS.1
  obtain ⟨l0, hl0⟩ : ∃ l0, readL s.code = some l0 := by
    unfold secF at hsec
    cases h : readL s.code with
    | none => rw [h] at hsec; simp at hsec
    | some l => exact ⟨l, rfl⟩
  obtain ⟨hgood, hl5⟩ := readL_good hl0
  have hat : ∀ m ∈ s.mends, 0 ≤ m.at_ ∧ m.at_ < (l0.length : Int) := fun m hm => by
    unfold secF at hsec
    rw [hl0] at hsec
    obtain ⟨k, hk, e⟩ := List.mem_iff_getElem.1 hm
    obtain ⟨a, b, _⟩ := mendsFrom_ok l0 s.mends _ 0 (by omega) hsec k m (Nat.zero_le _) (by rw [List.getElem?_eq_getElem hk, e])
    exact ⟨a, b⟩
  have hml := (secF_ok hsec).2.1
  have hrout : routB order s = (mendTo order s.mends l0).map codeB := by unfold routB; rw [hl0]; rfl
  have Hsome := Lib.hid hsome
  have Hnone := Lib.hid hnone
  have Hrout := Lib.hid hrout
  have Hgood := Lib.hid hgood
  have Hat := Lib.hid hat
  have Hl0 := Lib.hid hl0
  have HX := Lib.hid hX
  have Hord := Lib.hid hord
  have Hb := Lib.hid hb
  have Hmends := Lib.hid hmends
  have HSh := Lib.hid hS
  obtain ⟨W1, hW1⟩ : ∃ W1, W1 = w.alloc (Obj.cells #[.string s.name, .slice A1 s.code.length c1, .slice A2 s.mends.length c2] 58) := ⟨_, rfl⟩
  have hb1 : Below w.heap.size w W1 := by subst hW1; exact bl0
  have hV1 : W1.heap[w.heap.size]? = some (.cells #[.string s.name, .slice A1 s.code.length c1, .slice A2 s.mends.length c2] 58 (0, 0)) := by subst hW1; exact heap_alloc_new _ _
  have HW1 := Lib.hid hW1.symm
  have Hb1 := Lib.hid hb1
  have HV1 := Lib.hid hV1
  have Hcode := Lib.hid (hcode.up (hb.trans (hb1.mono hb.size)) (hb.trans (hb1.mono hb.size)).size)
  obtain ⟨y0, y1, y2, _, _, _⟩ := three_cellsL hV1
  have hlV := blk_lt hV1
  clear hsome hnone hrout hgood hat hl0 hX hord hb hmends hS hsec hcode hW1 hb1 hV1
  go_enter Tryz.func23, Tryz.ntmps23
  go_upto_region 1 with fail
  rw [HW1.out]
  go_wp2_with fail
  refine Read_own _ s.code _ Hcode.out (HSh.out.up Hb1.out h0) _ (fun l hl w2 u2 hb2 hown2 => ?_) (fun hno => absurd (Hl0.out.symm.trans hno) (by simp))
  obtain rfl : l0 = l := Option.some.inj (Hl0.out.symm.trans hl)
  obtain ⟨A3, c3, rfl⟩ := own_slice hown2
  have hwX := blk_lt HX.out
  obtain ⟨N, hN⟩ : ∃ N, N = l0.length := ⟨_, rfl⟩
  have HN := Lib.hid hN
  have Hown2 : Hid (w2.ownsRow W1.heap.size 54 5 (.slice A3 N c3) N (l0.flatMap Mac.cells)) := Lib.hid (by rw [hN]; exact hown2)
  have Hb2 := Lib.hid (Hb1.out.trans (hb2.mono Hb1.out.size))
  rw [← hN] at hl5
  rw [← hN]
  have hw1 := Hb1.out.size
  have hw2 := hb2.size
  have hlV2 : w.heap.size < w2.heap.size := Nat.lt_of_lt_of_le hlV hw2
  have d2 := (hb2.cell (p := ⟨w.heap.size, 2, none⟩) hlV).trans y2
  have Hmat : Hid (∀ j, j < s.mends.length → ∃ b off m, A2 = some ⟨b, off, none⟩ ∧ b < w0.heap.size ∧ s.mends[j]? = some m ∧ w0.cell? ⟨b, off + j * 2, none⟩ = some (.int .i64 m.at_) ∧ w0.cell? ⟨b, off + j * 2 + 1, none⟩ = some (.string m.name)) := Lib.hid (fun j hj => Hmends.out.mend_at hj)
  obtain ⟨ml, hmlen⟩ : ∃ ml, ml = s.mends.length := ⟨_, rfl⟩
  have Hmlen := Lib.hid hmlen
  rw [← hmlen] at hml Hmat d2
  rw [← hmlen]
  have hB1 : w.heap.size ≤ W1.heap.size := hw1
  obtain ⟨B1, hBB⟩ : ∃ B1, B1 = W1.heap.size := ⟨_, rfl⟩
  rw [← hBB] at Hown2 hB1 hw2 hlV
  have i8 : (0 : Int) ≤ (N : Int) := Int.natCast_nonneg _
  clear hown2 hb2 hl hN y0 y1 y2 hmlen hw1 hBB Hmends Hb1 HV1 HW1
  go_upto_region 3 with fail
  go_loopg [9, 10, 20] ml (fun gh s9 s10 s20 wr => ∃ (j : Nat) (l' : List Mac), j ≤ ml ∧ gh = ml - j ∧ s20 = .int .i64 (j : Int) ∧ wr.ownsRow B1 54 5 (.slice A3 N c3) N (l'.flatMap Mac.cells) ∧ l'.length = N ∧ (∀ m ∈ l', GoodMac m) ∧ mendTo order s.mends l0 = mendTo order (s.mends.drop j) l' ∧ Below w.heap.size w wr)
  case atStart => exact ⟨0, l0, Nat.zero_le _, rfl, rfl, Hown2.out.alloc _, HN.out.symm, Hgood.out, rfl, Hb2.out.alloc Hb2.out.size _⟩
  case round =>
    obtain ⟨j, l', hj, rfl, rfl, hown, hlen, hgl, hmt, hbel⟩ := hrel
    have Hown := Lib.hid hown
    have Hlen := Lib.hid hlen
    have Hgl := Lib.hid hgl
    have Hmt := Lib.hid hmt
    have Hbel := Lib.hid hbel
    have hz := hbel.size
    have j3 : (0 : Int) ≤ (j : Int) := Int.natCast_nonneg _
    by_cases hjl : j < ml
    · obtain ⟨b7, o7, m, hA7, hb7, e7, p7, p8⟩ := Hmat.out j hjl
      subst hA7
      have hmem := Hat.out m (List.mem_of_getElem? e7)
      obtain ⟨k, hk⟩ : ∃ k : Nat, m.at_ = (k : Int) := ⟨m.at_.toNat, by have := hmem.1; omega⟩
      have hkN : k < N := by have := hmem.2; have := HN.out; omega
      have hkN' : (k : Int) < (N : Int) := by omega
      have k0 : (0 : Int) ≤ (k : Int) := Int.natCast_nonneg _
      rw [hk] at p7
      have Hk := Lib.hid hk
      have h0r := Hb.out.trans (hbel.mono Hb.out.size)
      have r7 := (h0r.cell (p := ⟨b7, o7 + j * 2, none⟩) hb7).trans p7
      have r8 := (h0r.cell (p := ⟨b7, o7 + j * 2 + 1, none⟩) hb7).trans p8
      have hst : s.mends.drop j = m :: s.mends.drop (j + 1) := by
        obtain ⟨h1, h2⟩ := List.getElem?_eq_some_iff.1 e7
        rw [List.drop_eq_getElem_cons h1, h2]
      have Hst := Lib.hid hst
      have j4 : (j : Int) < (ml : Int) := by omega
      obtain ⟨g, cap, hA3, hg1, hg2, hg3, hg4⟩ := own_some hown (by omega)
      cases hA3
      have hXr := (hbel.block _ hwX).trans HX.out
      obtain ⟨W6, hW6⟩ : ∃ W6, W6 = wr.alloc (Obj.cells #[.int .i64 (k : Int), .string m.name] 84) := ⟨_, rfl⟩
      have hb6 : Below wr.heap.size wr W6 := by subst hW6; exact bl0
      have hV6 : W6.heap[wr.heap.size]? = some (.cells #[.int .i64 (k : Int), .string m.name] 84 (0, 0)) := by subst hW6; exact heap_alloc_new _ _
      have HW6 := Lib.hid hW6.symm
      have hbel6 := hbel.trans (hb6.mono hz)
      have Hord6 := Lib.hid (Hord.out.up hbel6 hbel6.size)
      have Hord6d : Hid (rpStr.SL W6.drew W6.drew.heap.size order (.slice A6 order.length c6)) := Lib.hid (Hord.out.up hbel6.drew hbel6.size)
      obtain ⟨v0, v1, _, _⟩ := cells_of_block hV6
      obtain ⟨_, _, x2, _, _⟩ := four_cells (((hb6.block _ (blk_lt hXr))).trans hXr)
      have hlV6 := blk_lt hV6
      have hown6 := own_below hown hb6
      obtain ⟨q1, q2⟩ := own_there hown6 (k * 5 + 4) (by omega)
      obtain ⟨u1, d1⟩ := Option.isSome_iff_exists.1 q1
      clear q1
      have Hown6 := Lib.hid hown6
      have Hbel6 := Lib.hid hbel6
      have hS0 : W6.cell? ⟨X, 2, none⟩ = some (.slice A6 order.length c6) ∧ W6.cell? ⟨wr.heap.size, 1, none⟩ = some (.string m.name) := ⟨x2, v1⟩
      have hS1 : W6.drew.cell? ⟨X, 2, none⟩ = some (.slice A6 order.length c6) ∧ W6.drew.cell? ⟨wr.heap.size, 1, none⟩ = some (.string m.name) := ⟨x2, v1⟩
      clear hown hlen hgl hmt hbel hk h0r hst hXr hW6 hb6 hV6 hown6 hbel6 p7 p8 e7 hmem
      rcases idx_cases order m.name with ⟨hx, _⟩ | ⟨n, hx, hn, _⟩
      · have Hx := Lib.hid hx
        have hro : routB order s = none := by
          rw [Hrout.out, Hmt.out, Hst.out, mendTo, if_pos (show placeB order m.name < 0 from by show idxB order m.name < 0; rw [hx]; decide)]
          rfl
        have Hfin := Lib.hid (Hnone.out hro)
        clear hx hro
        go_upto_region 5 with fail
        rw [HW6.out]
        clear r7 r8
        go_region_held3 (fun W : World => W.cell? ⟨X, 2, none⟩ = some (.slice A6 order.length c6) ∧ W.cell? ⟨wr.heap.size, 1, none⟩ = some (.string m.name)) (first | with_reducible exact hS0 | with_reducible exact hS1) ((go_at_call 50; with_reducible refine IndexS_calls order _ m.name _ (by first | exact Hord6.out | exact Hord6d.out) _ ?_; rw [Hx.out]))
        all_goals
          go_wp2
          first | exact Hfin.out _ Hbel6.out | exact Hfin.out _ Hbel6.out.drew
      · have Hx := Lib.hid hx
        have Hn := Lib.hid hn
        have n0 : (0 : Int) ≤ (n : Int) := Int.natCast_nonneg _
        have hnx : Hid (mendTo order s.mends l0 = mendTo order (s.mends.drop (j + 1)) (toCall l' k (n : Int))) := Lib.hid (by
          have e : placeB order m.name = (n : Int) := hx
          rw [Hmt.out, Hst.out, mendTo, if_neg (by rw [e]; omega), e, Hk.out]
          rfl)
        clear hx hn
        go_upto_region 5 with fail
        rw [HW6.out]
        clear r7 r8
        go_region_held3 (fun W : World => W.cell? ⟨X, 2, none⟩ = some (.slice A6 order.length c6) ∧ W.cell? ⟨wr.heap.size, 1, none⟩ = some (.string m.name)) (first | with_reducible exact hS0 | with_reducible exact hS1) ((go_at_call 50; with_reducible refine IndexS_calls order _ m.name _ (by first | exact Hord6.out | exact Hord6d.out) _ ?_; rw [Hx.out]))
        all_goals
          go_wp2
          go_roundg (ml - (j + 1))
          case measure => omega
          case rel =>
            have hlt : n < order.length := Hn.out
            refine ⟨j + 1, toCall l' k (n : Int), hjl, rfl, by go_num, ?_, by rw [toCall_len]; exact Hlen.out, toCall_good Hgl.out (by rw [Hlen.out]; exact hkN) (by unfold I64; omega), hnx.out, ?_⟩
            · first | exact own_mac_put Hown6.out Hlen.out hkN _ | exact own_mac_put (w := W6.drew) Hown6.out Hlen.out hkN _
            · first | exact Hbel6.out.setCell (p := ⟨g, k * 5 + 4, none⟩) (show w.heap.size ≤ g by omega) _ | exact Hbel6.out.drew.setCell (p := ⟨g, k * 5 + 4, none⟩) (show w.heap.size ≤ g by omega) _
    · obtain rfl : j = ml := by omega
      have hro : routB order s = some (codeB l') := by
        rw [Hrout.out, hmt, Hmlen.out, List.drop_length]
        rfl
      have Hfin := Lib.hid (Hsome.out _ hro)
      have hsl := SLMac_own (B := wr.heap.size) (by rw [hlen]; exact hown) (Nat.le_refl _)
      have Hsl := Lib.hid hsl
      have j4 : ¬ (j : Int) < (j : Int) := by omega
      clear hown hlen hgl hmt hbel hro hsl
      go_wp2_with fail
      refine OfB_calls l' _ _ Hsl.out Hgl.out (by have := Hlen.out; omega) (HSh.out.up Hbel.out h0) _ (fun w8 v8 hb8 hbuf8 => ?_)
      have hres := Hfin.out w8 v8 (Hbel.out.trans (hb8.mono hz)) (hbuf8.more_ hz)
      have Hres := Lib.hid hres
      clear hres hbuf8 hb8
      go_wp2
      exact Hres.out
end Go.Proofs.YtcakodemngchpaaGreatDoor

/- link.Do: the objects linked. -/
namespace Go.Proofs.YtcakodemngchpaaGreatDoor
open Go.RowKit
set_option linter.unusedSimpArgs false
set_option linter.unusedVariables false

theorem reachL_inv {S : List Section} : ∀ (f i : Nat) (st : List ByteArray × List ByteArray), RInv S st → RInv S (reachL S f i st)
  | 0, _, st, h => h
  | f + 1, i, st, h => by
    rw [reachL]
    split
    · exact h
    · exact reachL_inv f (i + 1) _ (h.meets _).1
theorem reached_inv {S : List Section} (h : hasS S mainB = true) : RInv S (reached S) := reachL_inv _ _ _ (RInv.begin h)

set_option maxRecDepth 100000 in
set_option maxHeartbeats 4000000 in
theorem Do_callsF (l : List Object) (v : Value) (w : World) (h : rpObject.SL w w.heap.size l v) (hS : Shapes w) (R : Ending → World → Prop)
    (hR : ∀ w' v1 v2, Below w.heap.size w w' → rpGlobal.SLF w' w.heap.size w'.heap.size (linkDo l).1.globals v1 → rpRoutine.SLF w' w.heap.size w'.heap.size (linkDo l).1.routines v2 → R (.returned (.tuple #[.agg #[v1, v2], (.agg #[.int .i64 ((linkDo l).2).1, .int .i64 ((linkDo l).2).2])])) w') :
    Calls Tryz.prog 10 #[v] w R := by
  have h0 := hS.1
  obtain ⟨A, c, rfl, hm, hcap, h⟩ := h.cases_
  have HR := Lib.hid hR
  have H := Lib.hid h
  have HSh := Lib.hid hS
  obtain ⟨W0, hW0⟩ : ∃ W0, W0 = (w.alloc (Obj.cells #[.slice none 0 0, .slice none 0 0] 43)).alloc (Obj.cells #[.int .i64 0, .int .i64 0] 27) := ⟨_, rfl⟩
  have hb0 : Below w.heap.size w W0 := by subst hW0; exact bl0
  have hz0 : W0.heap.size = w.heap.size + 2 := by subst hW0; simp
  have hQ : W0.heap[w.heap.size]? = some (.cells #[.slice none 0 0, .slice none 0 0] 43 (0, 0)) := by
    subst hW0
    exact (Below.heap_alloc _ _ _ (by simp)).trans (heap_alloc_new _ _)
  have hQ' : W0.heap[w.heap.size + 1]? = some (.cells #[.int .i64 0, .int .i64 0] 27 (0, 0)) := by
    subst hW0
    have := heap_alloc_new (w.alloc (Obj.cells #[.slice none 0 0, .slice none 0 0] 43)) (Obj.cells #[.int .i64 0, .int .i64 0] 27)
    simpa using this
  have HW := Lib.hid hW0.symm
  have HQ := Lib.hid hQ
  have HQ' := Lib.hid hQ'
  have Hb0 := Lib.hid hb0
  have hl0 : w.heap.size < W0.heap.size := by omega
  have hl1 : w.heap.size + 1 < W0.heap.size := by omega
  have HB : Hid (∀ (W : World) (u1 u2 : Value) (gs : List Global) (rs : List Routine) (c a : Int), linkDo l = (⟨gs, rs⟩, (c, a)) → Below w.heap.size w W → w.heap.size + 1 < W.heap.size → rpGlobal.SLF W w.heap.size W.heap.size gs u1 → rpRoutine.SLF W w.heap.size W.heap.size rs u2 → R (.returned (.tuple #[.agg #[u1, u2], .agg #[.int .i64 c, .int .i64 a]])) W) := Lib.hid fun W u1 u2 gs rs c a e hb _ h1 h2 => by
    have := HR.out W u1 u2 hb (by rw [e]; exact h1) (by rw [e]; exact h2)
    rw [e] at this
    exact this
  clear hR h hS hW0 hb0 hQ hQ' hz0
  go_enter Tryz.func10, Tryz.ntmps10
  go_upto_region 1 with fail
  rw [HW.out]
  go_wp2_with fail
  refine reach_calls l _ _ (H.out.up Hb0.out Hb0.out.size) (HSh.out.up Hb0.out h0) _ (fun hc w1 hb1 => ?_) (fun hc w1 X G gc base vo vu hlk hg => ?_)
  · obtain ⟨F, hF⟩ : ∃ F, F = metF l := ⟨_, rfl⟩
    have hld : linkDo l = (⟨[], []⟩, F) := by unfold linkDo; rw [if_pos hc, hF]
    rw [← hF] at hc ⊢
    obtain ⟨fc, fa⟩ := F
    simp only [] at hc ⊢
    have hq : ∀ w, (binOp .neq 27 (.agg #[.int .i64 fc, .int .i64 fa]) (.agg #[.int .i64 0, .int .i64 0])).run Tryz.prog w = .ok (.bool true) w := fun w => by
      rw [neq_Fault]
      simp [hc]
    have hfin : Hid (∀ W, Below w.heap.size w W → w.heap.size + 1 < W.heap.size → R (.returned (.tuple #[.agg #[.slice none 0 0, .slice none 0 0], .agg #[.int .i64 fc, .int .i64 fa]])) W) := Lib.hid fun W hb hz => HB.out W _ _ [] [] fc fa hld hb hz (Rp.SLF.nil _ _ _ _) (Rp.SLF.nil _ _ _ _)
    have hQ1 := (hb1.block _ hl0).trans HQ.out
    have hQ1' := (hb1.block _ hl1).trans HQ'.out
    have HQ1 := Lib.hid hQ1
    have HQ1' := Lib.hid hQ1'
    have Hb1 := Lib.hid (Hb0.out.trans (hb1.mono Hb0.out.size))
    obtain ⟨q0, q1, z0, z1⟩ := cells_of_block hQ1
    obtain ⟨q0', q1', z0', z1'⟩ := cells_of_block hQ1'
    have hlq := blk_lt hQ1
    have hlq' := blk_lt hQ1'
    clear hc hF hb1 hQ1 hQ1' hld
    go_wp2
    go_region
    all_goals
      go_wp2
      refine bodyPost_ret (v := .tuple #[.agg #[.slice none 0 0, .slice none 0 0], .agg #[.int .i64 fc, .int .i64 fa]]) (res_ImgF (by rfl) (by rfl) (by rfl) (blkp HQ1.out) (blkp HQ1'.out)) rfl (hfin.out _ (by
        have hb := Hb1.out
        exact bl0) (by simp [World.setCell, World.alloc, World.drew] <;> omega))
  · have hq : ∀ w, (binOp .neq 27 (.agg #[.int .i64 0, .int .i64 0]) (.agg #[.int .i64 0, .int .i64 0])).run Tryz.prog w = .ok (.bool false) w := fun w => neq_Fault 0 0 0 0 w
    obtain ⟨hlf, hmain, hmF, hmO⟩ := metF_cases l hc
    have hinv := reached_inv hmain
    have hld : linkDo l = routsTo (allS l) (reached (allS l)).1 (reached (allS l)).1.length 0 [] ⟨(l.getD 0 ⟨[], []⟩).globals, []⟩ := by
      unfold linkDo
      rw [if_neg (fun e => e hc), hmO]
    have hgl : (l.getD 0 ⟨[], []⟩).globals.length ≤ 10 ∧ ∀ g ∈ (l.getD 0 ⟨[], []⟩).globals, GlobOk g := by
      obtain ⟨_, h2, _, h3⟩ := linkF_ok hlf
      exact globFault_ok (h3 0 (l.getD 0 ⟨[], []⟩) (by rw [List.getD_eq_getElem?_getD, List.getElem?_eq_getElem h2]; rfl)).ok.glob
    have hfine := Lib.hid (fine_of hlf)
    have hsf := Lib.hid (fine_secs hlf)
    obtain ⟨st, hst⟩ : ∃ st, st = reached (allS l) := ⟨_, rfl⟩
    rw [← hst] at hlk hld hinv
    obtain ⟨S, hSS⟩ : ∃ S, S = allS l := ⟨_, rfl⟩
    rw [← hSS] at hlk hld hinv hfine hsf
    obtain ⟨gs, hgs⟩ : ∃ gs, gs = (l.getD 0 ⟨[], []⟩).globals := ⟨_, rfl⟩
    rw [← hgs] at hlk hld hgl hg
    obtain ⟨order, und⟩ := st
    simp only [] at hld
    have hin : order.length ≤ 480 := Nat.le_trans hinv.len hfine.out.few
    obtain ⟨A6, c6, hs6⟩ := own_slice hlk.two.ord
    obtain ⟨A7, c7, hs7⟩ := own_slice hlk.two.und
    subst hs6 hs7
    obtain ⟨W1, hW1⟩ : ∃ W1, W1 = w1.alloc (Obj.cells #[.int .i64 0, .int .i64 0] 27) := ⟨_, rfl⟩
    have hbW1 : Below w1.heap.size w1 W1 := by subst hW1; exact bl0
    have hV1 : W1.heap[w1.heap.size]? = some (.cells #[.int .i64 0, .int .i64 0] 27 (0, 0)) := by subst hW1; exact heap_alloc_new _ _
    have hlk1 := hlk.below hbW1
    have hbw1 := Hb0.out.trans (hlk1.bel.mono Hb0.out.size)
    have Hcp := Lib.hid (hg.up (hlk1.bel) hlk1.bel.size)
    have HW1 := Lib.hid hW1.symm
    have Hlk1 := Lib.hid hlk1
    have Hinv := Lib.hid hinv
    have Hld := Lib.hid hld
    have Hgl := Lib.hid hgl
    obtain ⟨x0, x1, x2, x3, xz⟩ := four_cells hlk1.blk
    obtain ⟨v0, v1, _, _⟩ := cells_of_block hV1
    have hlX := blk_lt hlk1.blk
    have hlV := blk_lt hV1
    have hz1 := hlk1.bel.size
    clear hlk hlk1 hg hlf hmain hmF hmO hbw1 hW1 hbW1 hV1 hc hinv hld hgl hst hSS hgs
    go_upto_region 2 with fail
    rw [HW1.out]
    go_wp2_with fail
    refine Copy_calls ⟨gs, []⟩ _ _ _ Hcp.out (Rp.SL.nil _ _ _) ⟨Nat.le_trans Hgl.out.1 (by decide), fun g hg => by have := (Hgl.out.2 g hg).fits; have := (Hgl.out.2 g hg).high; omega⟩ ⟨by simp, by simp⟩ _ (fun wC u1 u2 hbC hgC hsC => ?_)
    obtain ⟨U, cu, rfl, hgm, hgcap, hgC⟩ := (show rpGlobal.SLF wC W1.heap.size wC.heap.size gs u1 from hgC).cases_
    obtain ⟨U2, cu2, hu2, _, _, _⟩ := (show rpSection.SLF wC W1.heap.size wC.heap.size [] u2 from hsC).cases_
    obtain rfl : u2 = .slice U2 0 cu2 := hu2
    have hfd : ∀ w : World, (Instr.field 40 (.agg #[.slice U gs.length cu, .slice U2 0 cu2]) 0).run Tryz.prog w = .ok (.slice U gs.length cu) w := fun _ => by kernel_rfl
    have hzC := hbC.size
    obtain ⟨WP, hWP⟩ : ∃ WP, WP = wC.alloc (Obj.cells #[.slice U gs.length cu, .slice none 0 0] 43) := ⟨_, rfl⟩
    have hbP : Below wC.heap.size wC WP := by subst hWP; exact bl0
    have hVP : WP.heap[wC.heap.size]? = some (.cells #[.slice U gs.length cu, .slice none 0 0] 43 (0, 0)) := by subst hWP; exact heap_alloc_new _ _
    have HWP := Lib.hid hWP.symm
    have HVP := Lib.hid hVP
    have HbP := Lib.hid hbP
    have HgC := Lib.hid hgC
    have hq1 : w.heap.size + 1 < W1.heap.size := by omega
    have HlkC := Lib.hid (Hlk1.out.below hbC)
    obtain ⟨y0, y1, y2, y3, yz⟩ := four_cells (HlkC.out.below hbP).blk
    have hlXC := blk_lt HlkC.out.blk
    have hlXP := blk_lt (HlkC.out.below hbP).blk
    have o0 : (0 : Int) ≤ (order.length : Int) := Int.natCast_nonneg _
    have hsf0 : Hid (∀ W, Below W0.heap.size W0 W → Shapes W) := Lib.hid fun W hb => HSh.out.up (Hb0.out.trans (hb.mono Hb0.out.size)) h0
    obtain ⟨iR, hiR, zR0, zR1, zR2⟩ := info_parts info_Routine
    clear hgC hsC hWP hbP hVP hbC x0 x1 x2 x3 xz v0 v1 hgm hq
    go_upto_region 5 with fail
    rw [HWP.out]
    go_wp2_with fail
    go_loopg [7, 8, 9, 10, 34] order.length (fun gi s7 s8 s9 s10 s34 wr => ∃ (i : Nat) (vr : Value) (rs : List Routine) (css : List (List Value)), i ≤ order.length ∧ gi = order.length - i ∧ s34 = .int .i64 (i : Int) ∧ wr.heap[wC.heap.size]? = some (.cells #[.slice U gs.length cu, vr] 43 (0, 0)) ∧
      Built rpRoutine (wC.heap.size + 1) 78 (fun b => b < wC.heap.size + 1) wr vr rs css ∧ rs.length = i ∧ linkDo l = routsTo S order (order.length - i) i rs ⟨gs, []⟩ ∧ Below wC.heap.size wC wr)
    case atStart => exact ⟨0, _, [], [], Nat.zero_le _, rfl, rfl, HVP.out, Built.nil _ _ _ _ _ (fun k hk => by omega), rfl, Hld.out, HbP.out⟩
    case round =>
      obtain ⟨i, vr, rs, css, hi, rfl, rfl, hP, hB, hrl, hrt, hbel⟩ := hrel
      have HP := Lib.hid hP
      have HBt := Lib.hid hB
      have Hrl := Lib.hid hrl
      have Hrt := Lib.hid hrt
      have Hbel := Lib.hid hbel
      have hz := hbel.size
      have hzP := blk_lt hP
      have i1 : (0 : Int) ≤ (i : Int) := Int.natCast_nonneg _
      have Hlkr := Lib.hid (HlkC.out.below hbel)
      obtain ⟨x0, x1, x2, x3, xz⟩ := four_cells Hlkr.out.blk
      have hlXr := blk_lt Hlkr.out.blk
      clear y0 y1 y2 y3 yz
      by_cases hlt : i < order.length
      · have hsl := SLstr_own Hlkr.out.two.ord (Nat.le_refl _)
        have Hsl := Lib.hid hsl
        obtain ⟨b6, o6, nm, hA6, hb6, e6, p6⟩ := hsl.str_at hlt
        obtain ⟨s, hsec, hsm, hsn⟩ := secFind_has (Hinv.out.there nm (List.mem_of_getElem? e6))
        have i2 : (i : Int) < (order.length : Int) := by omega
        have hnms := (hfine.out.mends s hsm).1
        rw [hsn] at hnms
        obtain ⟨B3, m3, B4, m4, hlook, hm3, hm4⟩ := Hlkr.out.mp.look (nm := nm) (by unfold maxLen; omega) hsec
        have hl0' := hlook wr (Below.refl _ _)
        have E6 := Lib.hid e6
        have Hsec := Lib.hid hsec
        have Hm3 := Lib.hid hm3
        have Hm4 := Lib.hid hm4
        have Hsf := Lib.hid (hsf.out s hsm)
        subst hA6
        clear hP hB hrl hrt hbel hsl e6 hsec hsm hsn hlook hm3 hm4 hnms
        go_wp2_with fail
        have hr480 : rs.length ≤ 480 := by have := Hrl.out; omega
        refine mended_calls order s W0 wr Hlkr.out.bel (X + 1) _ _ _ _ c6 Hlkr.out.blk Hsl.out hin _ m3 _ m4 Hm3.out Hm4.out Hsf.out (hsf0.out _ Hlkr.out.bel) _ (fun cc hr w8 v8 hb8 hbuf8 => ?_) (fun hr w8 hb8 => ?_)
        · obtain ⟨A8, c8, rfl⟩ := hbuf8.slice
          have Hstep := Lib.hid (Hrt.out.trans (routsTo_step (rs := rs) (g := ⟨gs, []⟩) E6.out Hsec.out hr))
          have hP8 := (hb8.block _ hzP).trans HP.out
          have hz8 := hb8.size
          obtain ⟨g0, g1, gz0, gz1⟩ := cells_of_block hP8
          have hzP8 := blk_lt hP8
          have HB8 := Lib.hid (HBt.out.below hb8 (Nat.le_refl _))
          have hsz : (w8.alloc (Obj.cells #[.string nm, .slice A8 cc.length c8] 78)).heap.size = w8.heap.size + 1 := by simp
          have Hsz := Lib.hid hsz
          have HB9 := Lib.hid (HB8.out.alloc (Obj.cells #[.string nm, .slice A8 cc.length c8] 78))
          have HWr : Hid ((w8.alloc (Obj.cells #[.string nm, .slice A8 cc.length c8] 78)).ownsRow (wC.heap.size + 1) 78 2 vr rs.length css.flatten) := Lib.hid HB9.out.own
          have hP9 : Hid ((w8.alloc (Obj.cells #[.string nm, .slice A8 cc.length c8] 78)).heap[wC.heap.size]? = some (.cells #[.slice U gs.length cu, vr] 43 (0, 0))) := Lib.hid ((Below.heap_alloc _ _ _ hzP8).trans hP8)
          have hnO : Hid (vr.ownBlock ≠ some wC.heap.size ∧ ∀ j, vr.ownBlock = some j → wC.heap.size ≤ j) := Lib.hid ⟨fun e => by have := (HBt.out.own.lt _ e).1; omega, fun j e => by have := (HBt.out.own.lt _ e).1; omega⟩
          have HA : Hid (Apart rpRoutine (fun b => b < wC.heap.size + 1) (w8.alloc (Obj.cells #[.string nm, .slice A8 cc.length c8] 78)) vr ⟨nm, cc⟩ [.string nm, .slice A8 cc.length c8]) := Lib.hid (by
            refine Apart.of_only (base := wr.heap.size) (rpRoutine_mk (s := ⟨nm, cc⟩) (Buf.SL (base := wr.heap.size) ((hbuf8.alloc _).keep fun k hk _ => only_heap _ _ _ (decide_eq_true (hbuf8.lt k hk).1)) (by rw [only_size]; exact Nat.le_refl _))) (fun j hj => by omega) (fun j hj => ?_)
            exact (HBt.out.own.lt _ hj).2)
          have Hbel8 := Lib.hid ((Hbel.out.trans (hb8.mono hz)).alloc (by omega) (Obj.cells #[.string nm, .slice A8 cc.length c8] 78))
          obtain ⟨cl, hcl⟩ : ∃ cl, cl = cc.length := ⟨_, rfl⟩
          rw [← hcl] at HWr hP9 HA Hsz HB9 Hbel8 ⊢
          clear hcl hsz hP8 hb8 hbuf8 hr x0 x1 x2 x3 xz p6 hl0'
          go_wp2_with (at_builtin; refine wpList_append_lies _ rfl _ _ 41 rfl (wC.heap.size + 1) 78 iR _ 2 40 Tryz.underlying41 hiR zR0 zR1 zR2 rfl (by decide) vr rs.length css.flatten rfl HWr.out ⟨w8.heap.size, 0, none⟩ 1 1 [.string nm, .slice A8 cl c8] rfl rfl ?_ ?_ (by decide) ?_ ?_ ?_ _ rfl ?_)
          · exact World.news_of_block (cs := #[.string nm, .slice A8 cl c8]) (t := 78) (fr := (0, 0)) (heap_alloc_new _ _)
          · simp [Value.oneCell']
          · unfold maxLen; omega
          · omega
          · rw [Hsz.out]; omega
          · intro gb cap w3 hown3 hgrow3 hat3 hlt3
            have hB3 := HB9.out.push hown3 rfl hgrow3 (by rw [Hsz.out]; exact hat3) HA.out
            have hO3 := block_grown hgrow3 hP9.out hnO.out.1
            obtain ⟨k0, k1, kz0, kz1⟩ := cells_of_block hO3
            have hbel3 := Hbel8.out.grown hgrow3 (by rw [Hsz.out]; omega) hnO.out.2
            have hO4 : Hid (∀ u, (w3.setCell ⟨wC.heap.size, 1, none⟩ u).heap[wC.heap.size]? = some (.cells #[.slice U gs.length cu, u] 43 (0, 0))) := Lib.hid fun u => by rw [block_set hO3]; rfl
            have HB4 := Lib.hid hB3
            have Hbel3 := Lib.hid hbel3
            clear hB3 hO3 hbel3 hown3 hgrow3 hat3
            go_wp2
            go_roundg (order.length - (i + 1))
            case measure => omega
            case rel => exact ⟨i + 1, _, rs ++ [⟨nm, cc⟩], css ++ [[.string nm, .slice A8 cl c8]], hlt, rfl, by go_num, hO4.out _, HB4.out.setCell _ (by simp) _, by simp [Hrl.out], Hstep.out, Hbel3.out.setCell (p := ⟨wC.heap.size, 1, none⟩) (Nat.le_refl _) _⟩
        · have he := Hrt.out.trans (routsTo_none (rs := rs) (g := ⟨gs, []⟩) E6.out Hsec.out hr)
          have hfin : Hid (∀ W, Below w.heap.size w W → w.heap.size + 1 < W.heap.size → R (.returned (.tuple #[.agg #[.slice none 0 0, .slice none 0 0], .agg #[.int .i64 6, .int .i64 (i : Int)]])) W) := Lib.hid fun W hb hz => HB.out W _ _ [] [] 6 (i : Int) he hb hz (Rp.SLF.nil _ _ _ _) (Rp.SLF.nil _ _ _ _)
          have hb80 := Hlkr.out.bel.trans (hb8.mono Hlkr.out.bel.size)
          have Hb80 := Lib.hid hb80
          clear he hr x0 x1 x2 x3 xz p6 hl0' hb8 hb80
          go_wp2_with fail
          refine Fault_calls 6 (i : Int) _ _ (fun w9 hb9 => ?_)
          have hb90 := Hb80.out.trans (hb9.mono Hb80.out.size)
          have hQ9 := (hb90.block _ hl0).trans HQ.out
          have hQ9' := (hb90.block _ hl1).trans HQ'.out
          have HQ9 := Lib.hid hQ9
          have HQ9' := Lib.hid hQ9'
          have Hb9 := Lib.hid (Hb0.out.trans (hb90.mono Hb0.out.size))
          obtain ⟨q0, q1, z0, z1⟩ := cells_of_block hQ9
          obtain ⟨q0', q1', z0', z1'⟩ := cells_of_block hQ9'
          have hlq := blk_lt hQ9
          have hlq' := blk_lt hQ9'
          clear hb9 hb90 hQ9 hQ9'
          go_wp2
          exact bodyPost_ret (v := .tuple #[.agg #[.slice none 0 0, .slice none 0 0], .agg #[.int .i64 6, .int .i64 (i : Int)]]) (res_ImgF (by rfl) (by rfl) (by rfl) (blkp HQ9.out) (blkp HQ9'.out)) rfl (hfin.out _ (by
            have hb := Hb9.out
            exact bl0) (by simp [World.setCell, World.alloc, World.drew] <;> omega))
      · obtain rfl : i = order.length := by omega
        obtain ⟨A9, c9, rfl⟩ := own_slice hB.own
        have he := hrt.trans routsTo_end
        have i2 : ¬ (order.length : Int) < (order.length : Int) := by omega
        have hbr : Below W0.heap.size W0 wr := Hlkr.out.bel
        have hQ9 := (hbr.block _ hl0).trans HQ.out
        have hQ9' := (hbr.block _ hl1).trans HQ'.out
        have HQ9 := Lib.hid hQ9
        have HQ9' := Lib.hid hQ9'
        have Hb9 := Lib.hid (Hb0.out.trans (hbr.mono Hb0.out.size))
        obtain ⟨g0, g1, gz0, gz1⟩ := cells_of_block hP
        obtain ⟨N9, hN9⟩ : ∃ N9, N9 = rs.length := ⟨_, rfl⟩
        rw [← hN9] at g1 he
        have HN9 := Lib.hid hN9
        have n0 : (0 : Int) ≤ (N9 : Int) := Int.natCast_nonneg _
        by_cases h40 : 40 < N9
        · rw [if_pos h40] at he
          have hfin : Hid (∀ W, Below w.heap.size w W → w.heap.size + 1 < W.heap.size → R (.returned (.tuple #[.agg #[.slice none 0 0, .slice none 0 0], .agg #[.int .i64 2, .int .i64 0]])) W) := Lib.hid fun W hb hz => HB.out W _ _ [] [] 2 0 he hb hz (Rp.SLF.nil _ _ _ _) (Rp.SLF.nil _ _ _ _)
          have h40' : (40 : Int) < (N9 : Int) := by omega
          clear hP hB hrl hrt hbel he hQ9 hQ9' hN9 x0 x1 x2 x3 xz
          go_wp2_with fail
          refine Fault_calls 2 0 _ _ (fun w9 hb9 => ?_)
          have hQ10 := (hb9.block _ (by have := hbr.size; omega)).trans HQ9.out
          have hQ10' := (hb9.block _ (by have := hbr.size; omega)).trans HQ9'.out
          have HQ10 := Lib.hid hQ10
          have HQ10' := Lib.hid hQ10'
          have Hb10 := Lib.hid (Hb9.out.trans (hb9.mono Hb9.out.size))
          obtain ⟨q0, q1, z0, z1⟩ := cells_of_block hQ10
          obtain ⟨q0', q1', z0', z1'⟩ := cells_of_block hQ10'
          have hlq := blk_lt hQ10
          have hlq' := blk_lt hQ10'
          clear hb9 hQ10 hQ10' hbr
          go_wp2
          exact bodyPost_ret (v := .tuple #[.agg #[.slice none 0 0, .slice none 0 0], .agg #[.int .i64 2, .int .i64 0]]) (res_ImgF (by rfl) (by rfl) (by rfl) (blkp HQ10.out) (blkp HQ10'.out)) rfl (hfin.out _ (by
            have hb := Hb10.out
            exact bl0) (by simp [World.setCell, World.alloc, World.drew] <;> omega))
        · rw [if_neg h40] at he
          have h40' : ¬ (40 : Int) < (N9 : Int) := by omega
          obtain ⟨q0, q1, z0, z1⟩ := cells_of_block hQ9
          obtain ⟨q0', q1', z0', z1'⟩ := cells_of_block hQ9'
          have hlq := blk_lt hQ9
          have hlq' := blk_lt hQ9'
          have hend := HB.out ((((wr.setCell ⟨w.heap.size, 0, none⟩ (.slice U gs.length cu)).setCell ⟨w.heap.size, 1, none⟩ (.slice A9 N9 c9)).setCell ⟨w.heap.size + 1, 0, none⟩ (.int .i64 0)).setCell ⟨w.heap.size + 1, 1, none⟩ (.int .i64 0)) (.slice U gs.length cu) (.slice A9 N9 c9) gs rs 0 0 he
            ((((Hb9.out.setCell (p := ⟨w.heap.size, 0, none⟩) (Nat.le_refl _) _).setCell (p := ⟨w.heap.size, 1, none⟩) (Nat.le_refl _) _).setCell (p := ⟨w.heap.size + 1, 0, none⟩) (Nat.le_succ _) _).setCell (p := ⟨w.heap.size + 1, 1, none⟩) (Nat.le_succ _) _) (by simp [World.setCell]; omega)
            (((((HgC.out.below hbel (Nat.le_refl _)).setCell ⟨w.heap.size, 0, none⟩ (show w.heap.size < W1.heap.size by omega) _).setCell ⟨w.heap.size, 1, none⟩ (show w.heap.size < W1.heap.size by omega) _).setCell ⟨w.heap.size + 1, 0, none⟩ hq1 _).setCell ⟨w.heap.size + 1, 1, none⟩ hq1 _ |>.more (by omega) (by simp [World.setCell]; omega))
            (by
              rw [hN9]
              exact ((((hB.setCell ⟨w.heap.size, 0, none⟩ (show w.heap.size < wC.heap.size + 1 by omega) _).setCell ⟨w.heap.size, 1, none⟩ (show w.heap.size < wC.heap.size + 1 by omega) _).setCell ⟨w.heap.size + 1, 0, none⟩ (show w.heap.size + 1 < wC.heap.size + 1 by omega) _).setCell ⟨w.heap.size + 1, 1, none⟩ (show w.heap.size + 1 < wC.heap.size + 1 by omega) _).SLF (fun k hk => by show k < wC.heap.size + 1; omega) (by omega) (Nat.le_refl _))
          have Hend := Lib.hid hend
          clear hP hB hrl hrt hbel he hQ9 hQ9' hN9 x0 x1 x2 x3 xz hend hbr
          go_wp2
          exact bodyPost_ret (v := .tuple #[.agg #[.slice U gs.length cu, .slice A9 N9 c9], .agg #[.int .i64 0, .int .i64 0]]) (res_ImgF (by rfl) (by rfl) (by rfl) (blkp HQ9.out) (blkp HQ9'.out)) rfl Hend.out
theorem Do_calls (l : List Object) (v : Value) (w : World) (h : rpObject.SL w w.heap.size l v) (hS : Shapes w) (R : Ending → World → Prop)
    (hR : ∀ w' v1 v2, Below w.heap.size w w' → rpGlobal.SL w' w'.heap.size (linkDo l).1.globals v1 → rpRoutine.SL w' w'.heap.size (linkDo l).1.routines v2 → R (.returned (.tuple #[.agg #[v1, v2], (.agg #[.int .i64 ((linkDo l).2).1, .int .i64 ((linkDo l).2).2])])) w') :
    Calls Tryz.prog 10 #[v] w R :=
  Do_callsF l v w h hS R fun w' v1 v2 hb h1 h2 => hR w' v1 v2 hb h1.SL h2.SL
end Go.Proofs.YtcakodemngchpaaGreatDoor
