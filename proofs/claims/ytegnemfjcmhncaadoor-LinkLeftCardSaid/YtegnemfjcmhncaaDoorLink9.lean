/- link.mended: a function's code, its calls set to the places of what they call. -/
import Derived.Test.YtegnemfjcmhncaaDoorBase
import Derived.Test.YtegnemfjcmhncaaDoorRows
import Derived.IntWalk
import Derived.Deep.LoopGhost
import Derived.Deep.CutBlock
import Derived.Deep.DeepCutAuto
import Derived.Deep.RegionHeld3
import Derived.Outline
import Derived.Test.YtegnemfjcmhncaaDoorLinkB
import Derived.Test.YtegnemfjcmhncaaDoorLinkQ
import Derived.Test.YtegnemfjcmhncaaDoorOfB
import Derived.Test.YtegnemfjcmhncaaDoorReadC
namespace Go.Proofs.YtegnemfjcmhncaaDoor
open Go.RowKit
set_option linter.unusedSimpArgs false
set_option linter.unusedVariables false

theorem flat_put (n : Int) : ∀ (l : List Mac) (k : Nat), k < l.length → (l.flatMap Mac.cells).take (k * 5 + 4) ++ [(Value.int .i64 n)] ++ (l.flatMap Mac.cells).drop (k * 5 + 4 + 1) = (toCall l k n).flatMap Mac.cells
  | [], k, h => by simp at h
  | m :: l, 0, _ => by simp [toCall, Mac.cells]
  | m :: l, k + 1, h => by
    have ih := flat_put n l k (by simpa using h)
    have e : toCall (m :: l) (k + 1) n = m :: toCall l k n := by simp [toCall]
    rw [e, List.flatMap_cons, List.flatMap_cons, ← ih, show (k + 1) * 5 + 4 + 1 = (Mac.cells m).length + (k * 5 + 4 + 1) from by simp [Mac.cells]; omega, show (k + 1) * 5 + 4 = (Mac.cells m).length + (k * 5 + 4) from by simp [Mac.cells]; omega, List.take_length_add_append, List.drop_length_add_append]
    simp
theorem own_mac_put {w : World} {base g cap k N : Nat} {l : List Mac} (h : w.ownsRow base 52 5 (.slice (some ⟨g, 0, none⟩) N cap) N (l.flatMap Mac.cells)) (hN : l.length = N) (hk : k < N) (n : Int) :
    (w.setCell ⟨g, k * 5 + 4, none⟩ (.int .i64 n)).ownsRow base 52 5 (.slice (some ⟨g, 0, none⟩) N cap) N ((toCall l k n).flatMap Mac.cells) := by
  subst hN
  have := own_setCells (vs := [.int .i64 n]) (o := k * 5 + 4) h (by simp; omega) (Nat.le_refl _) ((toCall l k n).flatMap Mac.cells) (by
    show ((l.flatMap Mac.cells).take (k * 5 + 4) ++ [Value.int .i64 n] ++ (l.flatMap Mac.cells).drop (k * 5 + 4 + 1)).take (l.length * 5) = _
    rw [flat_put n l k hk, List.take_of_length_le]
    rw [flat_length Mac.cells 5 (fun _ => rfl), toCall_len]
    exact Nat.le_refl _)
  exact this

theorem Buf.more_ {w : World} {base base' : Nat} {v : Value} {bs : List UInt8} (h : Buf w base v bs) (hb : base' ≤ base) : Buf w base' v bs := by
  rcases h with h | ⟨h1, h2, g, cur, fr, h3, h4, h5⟩
  · obtain ⟨h1, h2⟩ := h
    refine .inl ⟨h1, ?_⟩
    rcases h2 with h2 | ⟨g, cap, cur, e1, e2, e3⟩
    · exact .inl h2
    · exact .inr ⟨g, cap, cur, e1, Nat.le_trans hb e2, e3⟩
  · exact .inr ⟨h1, h2, g, cur, fr, h3, Nat.le_trans hb h4, h5⟩

set_option maxRecDepth 100000 in
set_option maxHeartbeats 4000000 in
theorem mended_calls (order : List ByteArray) (s : Section) (w0 w : World) (hb : Below w0.heap.size w0 w) (X : Nat) (g0 m0 u0 : Value) (A6 : Option Addr) (c6 : Nat) (hX : w.heap[X]? = some (.cells #[g0, m0, .slice A6 order.length c6, u0] 99 (0, 0))) (hord : rpStr.SL w w.heap.size order (.slice A6 order.length c6)) (hfew : order.length ≤ 480)
    (A1 : Option Addr) (c1 : Nat) (A2 : Option Addr) (c2 : Nat) (hcode : rpByte.SL w0 w0.heap.size s.code (.slice A1 s.code.length c1)) (hmends : rpMend.SL w0 w0.heap.size s.mends (.slice A2 s.mends.length c2)) (hsec : secF s = 0) (hS : Shapes w) (R : Ending → World → Prop)
    (hsome : ∀ c, routB order s = some c → ∀ w' v, Below w.heap.size w w' → Buf w' w.heap.size v c → R (.returned (.tuple #[v, .bool true])) w')
    (hnone : routB order s = none → ∀ w', Below w.heap.size w w' → R (.returned (.tuple #[.slice none 0 0, .bool false])) w') :
    Calls Tryd.prog 45 #[.pointer (some ⟨X, 0, none⟩), .agg #[.string s.name, .slice A1 s.code.length c1, .slice A2 s.mends.length c2]] w R := by
  have h0 := hS.1
  obtain ⟨l0, hl0⟩ : ∃ l0, readL s.code = some l0 := by
    unfold secF at hsec
    cases h : readL s.code with
    | none => rw [h] at hsec; simp at hsec
    | some l => exact ⟨l, rfl⟩
  obtain ⟨hgood, hl5⟩ := readL_good hl0
  have hat : ∀ m ∈ s.mends, 0 ≤ m.at_ ∧ m.at_ < (l0.length : Int) := fun m hm => by
    unfold secF at hsec
    rw [hl0] at hsec
    obtain ⟨k, hk, e⟩ := List.mem_iff_getElem.1 hm
    obtain ⟨a, b, _⟩ := mendsFrom_ok l0 s.mends _ 0 (by omega) hsec k m (Nat.zero_le _) (by rw [List.getElem?_eq_getElem hk, e])
    exact ⟨a, b⟩
  have hml := (secF_ok hsec).2.1
  have hrout : routB order s = (mendTo order s.mends l0).map codeB := by unfold routB; rw [hl0]; rfl
  have Hsome := Lib.hid hsome
  have Hnone := Lib.hid hnone
  have Hrout := Lib.hid hrout
  have Hgood := Lib.hid hgood
  have Hat := Lib.hid hat
  have Hl0 := Lib.hid hl0
  have HX := Lib.hid hX
  have Hord := Lib.hid hord
  have Hb := Lib.hid hb
  have Hmends := Lib.hid hmends
  have HSh := Lib.hid hS
  obtain ⟨W1, hW1⟩ : ∃ W1, W1 = w.alloc (Obj.cells #[.string s.name, .slice A1 s.code.length c1, .slice A2 s.mends.length c2] 58) := ⟨_, rfl⟩
  have hb1 : Below w.heap.size w W1 := by subst hW1; exact bl0
  have hV1 : W1.heap[w.heap.size]? = some (.cells #[.string s.name, .slice A1 s.code.length c1, .slice A2 s.mends.length c2] 58 (0, 0)) := by subst hW1; exact heap_alloc_new _ _
  have HW1 := Lib.hid hW1.symm
  have Hb1 := Lib.hid hb1
  have HV1 := Lib.hid hV1
  have Hcode := Lib.hid (hcode.up (hb.trans (hb1.mono hb.size)) (hb.trans (hb1.mono hb.size)).size)
  obtain ⟨y0, y1, y2, _, _, _⟩ := three_cellsL hV1
  have hlV := blk_lt hV1
  clear hsome hnone hrout hgood hat hl0 hX hord hb hmends hS hsec hcode hW1 hb1 hV1
  go_enter Tryd.func45, Tryd.ntmps45
  go_upto_region 1 with fail
  rw [HW1.out]
  go_wp2_with fail
  refine Read_own _ s.code _ Hcode.out (HSh.out.up Hb1.out h0) _ (fun l hl w2 u2 hb2 hown2 => ?_) (fun hno => absurd (Hl0.out.symm.trans hno) (by simp))
  obtain rfl : l0 = l := Option.some.inj (Hl0.out.symm.trans hl)
  obtain ⟨A3, c3, rfl⟩ := own_slice hown2
  have hwX := blk_lt HX.out
  obtain ⟨N, hN⟩ : ∃ N, N = l0.length := ⟨_, rfl⟩
  have HN := Lib.hid hN
  have Hown2 : Hid (w2.ownsRow W1.heap.size 52 5 (.slice A3 N c3) N (l0.flatMap Mac.cells)) := Lib.hid (by rw [hN]; exact hown2)
  have Hb2 := Lib.hid (Hb1.out.trans (hb2.mono Hb1.out.size))
  rw [← hN] at hl5
  rw [← hN]
  have hw1 := Hb1.out.size
  have hw2 := hb2.size
  have hlV2 : w.heap.size < w2.heap.size := Nat.lt_of_lt_of_le hlV hw2
  have d2 := (hb2.cell (p := ⟨w.heap.size, 2, none⟩) hlV).trans y2
  have Hmat : Hid (∀ j, j < s.mends.length → ∃ b off m, A2 = some ⟨b, off, none⟩ ∧ b < w0.heap.size ∧ s.mends[j]? = some m ∧ w0.cell? ⟨b, off + j * 2, none⟩ = some (.int .i64 m.at_) ∧ w0.cell? ⟨b, off + j * 2 + 1, none⟩ = some (.string m.name)) := Lib.hid (fun j hj => Hmends.out.mend_at hj)
  obtain ⟨ml, hmlen⟩ : ∃ ml, ml = s.mends.length := ⟨_, rfl⟩
  have Hmlen := Lib.hid hmlen
  rw [← hmlen] at hml Hmat d2
  rw [← hmlen]
  have hB1 : w.heap.size ≤ W1.heap.size := hw1
  obtain ⟨B1, hBB⟩ : ∃ B1, B1 = W1.heap.size := ⟨_, rfl⟩
  rw [← hBB] at Hown2 hB1 hw2 hlV
  have i8 : (0 : Int) ≤ (N : Int) := Int.natCast_nonneg _
  clear hown2 hb2 hl hN y0 y1 y2 hmlen hw1 hBB Hmends Hb1 HV1 HW1
  go_upto_region 3 with fail
  go_loopg [9, 10, 20] ml (fun gh s9 s10 s20 wr => ∃ (j : Nat) (l' : List Mac), j ≤ ml ∧ gh = ml - j ∧ s20 = .int .i64 (j : Int) ∧ wr.ownsRow B1 52 5 (.slice A3 N c3) N (l'.flatMap Mac.cells) ∧ l'.length = N ∧ (∀ m ∈ l', GoodMac m) ∧ mendTo order s.mends l0 = mendTo order (s.mends.drop j) l' ∧ Below w.heap.size w wr)
  case atStart => exact ⟨0, l0, Nat.zero_le _, rfl, rfl, Hown2.out.alloc _, HN.out.symm, Hgood.out, rfl, Hb2.out.alloc Hb2.out.size _⟩
  case round =>
    obtain ⟨j, l', hj, rfl, rfl, hown, hlen, hgl, hmt, hbel⟩ := hrel
    have Hown := Lib.hid hown
    have Hlen := Lib.hid hlen
    have Hgl := Lib.hid hgl
    have Hmt := Lib.hid hmt
    have Hbel := Lib.hid hbel
    have hz := hbel.size
    have j3 : (0 : Int) ≤ (j : Int) := Int.natCast_nonneg _
    by_cases hjl : j < ml
    · obtain ⟨b7, o7, m, hA7, hb7, e7, p7, p8⟩ := Hmat.out j hjl
      subst hA7
      have hmem := Hat.out m (List.mem_of_getElem? e7)
      obtain ⟨k, hk⟩ : ∃ k : Nat, m.at_ = (k : Int) := ⟨m.at_.toNat, by have := hmem.1; omega⟩
      have hkN : k < N := by have := hmem.2; have := HN.out; omega
      have hkN' : (k : Int) < (N : Int) := by omega
      have k0 : (0 : Int) ≤ (k : Int) := Int.natCast_nonneg _
      rw [hk] at p7
      have Hk := Lib.hid hk
      have h0r := Hb.out.trans (hbel.mono Hb.out.size)
      have r7 := (h0r.cell (p := ⟨b7, o7 + j * 2, none⟩) hb7).trans p7
      have r8 := (h0r.cell (p := ⟨b7, o7 + j * 2 + 1, none⟩) hb7).trans p8
      have hst : s.mends.drop j = m :: s.mends.drop (j + 1) := by
        obtain ⟨h1, h2⟩ := List.getElem?_eq_some_iff.1 e7
        rw [List.drop_eq_getElem_cons h1, h2]
      have Hst := Lib.hid hst
      have j4 : (j : Int) < (ml : Int) := by omega
      obtain ⟨g, cap, hA3, hg1, hg2, hg3, hg4⟩ := own_some hown (by omega)
      cases hA3
      have hXr := (hbel.block _ hwX).trans HX.out
      obtain ⟨W6, hW6⟩ : ∃ W6, W6 = wr.alloc (Obj.cells #[.int .i64 (k : Int), .string m.name] 92) := ⟨_, rfl⟩
      have hb6 : Below wr.heap.size wr W6 := by subst hW6; exact bl0
      have hV6 : W6.heap[wr.heap.size]? = some (.cells #[.int .i64 (k : Int), .string m.name] 92 (0, 0)) := by subst hW6; exact heap_alloc_new _ _
      have HW6 := Lib.hid hW6.symm
      have hbel6 := hbel.trans (hb6.mono hz)
      have Hord6 := Lib.hid (Hord.out.up hbel6 hbel6.size)
      have Hord6d : Hid (rpStr.SL W6.drew W6.drew.heap.size order (.slice A6 order.length c6)) := Lib.hid (Hord.out.up hbel6.drew hbel6.size)
      obtain ⟨v0, v1, _, _⟩ := cells_of_block hV6
      obtain ⟨_, _, x2, _, _⟩ := four_cells (((hb6.block _ (blk_lt hXr))).trans hXr)
      have hlV6 := blk_lt hV6
      have hown6 := own_below hown hb6
      obtain ⟨q1, q2⟩ := own_there hown6 (k * 5 + 4) (by omega)
      obtain ⟨u1, d1⟩ := Option.isSome_iff_exists.1 q1
      clear q1
      have Hown6 := Lib.hid hown6
      have Hbel6 := Lib.hid hbel6
      have hS0 : W6.cell? ⟨X, 2, none⟩ = some (.slice A6 order.length c6) ∧ W6.cell? ⟨wr.heap.size, 1, none⟩ = some (.string m.name) := ⟨x2, v1⟩
      have hS1 : W6.drew.cell? ⟨X, 2, none⟩ = some (.slice A6 order.length c6) ∧ W6.drew.cell? ⟨wr.heap.size, 1, none⟩ = some (.string m.name) := ⟨x2, v1⟩
      clear hown hlen hgl hmt hbel hk h0r hst hXr hW6 hb6 hV6 hown6 hbel6 p7 p8 e7 hmem
      rcases idx_cases order m.name with ⟨hx, _⟩ | ⟨n, hx, hn, _⟩
      · have Hx := Lib.hid hx
        have hro : routB order s = none := by
          rw [Hrout.out, Hmt.out, Hst.out, mendTo, if_pos (show placeB order m.name < 0 from by show idxB order m.name < 0; rw [hx]; decide)]
          rfl
        have Hfin := Lib.hid (Hnone.out hro)
        clear hx hro
        go_upto_region 5 with fail
        rw [HW6.out]
        clear r7 r8
        go_region_held3 (fun W : World => W.cell? ⟨X, 2, none⟩ = some (.slice A6 order.length c6) ∧ W.cell? ⟨wr.heap.size, 1, none⟩ = some (.string m.name)) (first | with_reducible exact hS0 | with_reducible exact hS1) ((go_at_call 71; with_reducible refine IndexS_calls order _ m.name _ (by first | exact Hord6.out | exact Hord6d.out) _ ?_; rw [Hx.out]))
        all_goals
          go_wp2
          first | exact Hfin.out _ Hbel6.out | exact Hfin.out _ Hbel6.out.drew
      · have Hx := Lib.hid hx
        have Hn := Lib.hid hn
        have n0 : (0 : Int) ≤ (n : Int) := Int.natCast_nonneg _
        have hnx : Hid (mendTo order s.mends l0 = mendTo order (s.mends.drop (j + 1)) (toCall l' k (n : Int))) := Lib.hid (by
          have e : placeB order m.name = (n : Int) := hx
          rw [Hmt.out, Hst.out, mendTo, if_neg (by rw [e]; omega), e, Hk.out]
          rfl)
        clear hx hn
        go_upto_region 5 with fail
        rw [HW6.out]
        clear r7 r8
        go_region_held3 (fun W : World => W.cell? ⟨X, 2, none⟩ = some (.slice A6 order.length c6) ∧ W.cell? ⟨wr.heap.size, 1, none⟩ = some (.string m.name)) (first | with_reducible exact hS0 | with_reducible exact hS1) ((go_at_call 71; with_reducible refine IndexS_calls order _ m.name _ (by first | exact Hord6.out | exact Hord6d.out) _ ?_; rw [Hx.out]))
        all_goals
          go_wp2
          go_roundg (ml - (j + 1))
          case measure => omega
          case rel =>
            have hlt : n < order.length := Hn.out
            refine ⟨j + 1, toCall l' k (n : Int), hjl, rfl, by go_num, ?_, by rw [toCall_len]; exact Hlen.out, toCall_good Hgl.out (by rw [Hlen.out]; exact hkN) (by unfold I64; omega), hnx.out, ?_⟩
            · first | exact own_mac_put Hown6.out Hlen.out hkN _ | exact own_mac_put (w := W6.drew) Hown6.out Hlen.out hkN _
            · first | exact Hbel6.out.setCell (p := ⟨g, k * 5 + 4, none⟩) (show w.heap.size ≤ g by omega) _ | exact Hbel6.out.drew.setCell (p := ⟨g, k * 5 + 4, none⟩) (show w.heap.size ≤ g by omega) _
    · obtain rfl : j = ml := by omega
      have hro : routB order s = some (codeB l') := by
        rw [Hrout.out, hmt, Hmlen.out, List.drop_length]
        rfl
      have Hfin := Lib.hid (Hsome.out _ hro)
      have hsl := SLMac_own (B := wr.heap.size) (by rw [hlen]; exact hown) (Nat.le_refl _)
      have Hsl := Lib.hid hsl
      have j4 : ¬ (j : Int) < (j : Int) := by omega
      clear hown hlen hgl hmt hbel hro hsl
      go_wp2_with fail
      refine OfB_calls l' _ _ Hsl.out Hgl.out (by have := Hlen.out; omega) (HSh.out.up Hbel.out h0) _ (fun w8 v8 hb8 hbuf8 => ?_)
      have hres := Hfin.out w8 v8 (Hbel.out.trans (hb8.mono hz)) (hbuf8.more_ hz)
      have Hres := Lib.hid hres
      clear hres hbuf8 hb8
      go_wp2
      exact Hres.out
end Go.Proofs.YtegnemfjcmhncaaDoor
