/- The document's rounds: what is reached. (printed by genpr3.py) The document's rounds: what is quiet. A row of rows of ints that are the call's own, each with a block of its own. The document's list of what is live. PeepReach, plainly. -/
import Derived.Test.YtemakpjickbmnaaDoorBase
import Derived.Test.YtemakpjickbmnaaDoorRows
import Derived.IntWalk
import Derived.Outline
import Derived.Deep.LoopGhost
import Derived.Deep.CutBlock
import Derived.Deep.DeepCutAuto
import Derived.Test.YtemakpjickbmnaaDoorPrA
import Derived.Test.YtemakpjickbmnaaDoorCopyA
import Derived.Test.YtemakpjickbmnaaDoorAppA
import Derived.Maps.AppendAt
import Derived.Test.YtemakpjickbmnaaDoorRefA
import Derived.Test.YtemakpjickbmnaaDoorPeepPl
/- The document's rounds: what is reached. (printed by genpr3.py) -/
namespace Go.Proofs.YtemakpjickbmnaaDoor
open Go.RowKit
set_option linter.unusedSimpArgs false
set_option linter.unusedVariables false

theorem next_all {l : List Mac} (hok : MacsOk l) {i : Nat} (hi : i < l.length) {S : List Bool} (h1 : i + 1 < l.length → goesB l i (i + 1) = true → atB S (i + 1) = true) (h2 : jumpsM (atL l i) = true → atB S (atL l i).n.toNat = true) : ∀ t ∈ nextL l i, atB S t.toNat = true := by
  intro t ht
  have hb := nextL_lt hok hi t ht
  have hst := (nextL_iff (k := t.toNat) hi).1 (by rwa [Int.toNat_of_nonneg hb.1])
  rcases hst.2 with ⟨_, _, e⟩ | ⟨hj, e⟩
  · have hl : i + 1 < l.length := by omega
    rw [e]
    refine h1 hl (decide_eq_true ?_)
    rw [← e, Int.toNat_of_nonneg hb.1]
    exact ht
  · have := h2 hj
    rw [e, Int.toNat_natCast] at this
    exact this
theorem jump_next {l : List Mac} {i : Nat} (hi : i < l.length) (hm : MacOk (atL l i) l.length) (hj : jumpsM (atL l i) = true) : (atL l i).n ∈ nextL l i := by
  have hb := hm.jump (jumps_op.1 hj).1 (jumps_op.1 hj).2
  have := (nextL_iff (k := (atL l i).n.toNat) hi).2 ⟨hi, .inr ⟨hj, by omega⟩⟩
  rwa [Int.toNat_of_nonneg hb.1] at this
set_option maxRecDepth 100000 in
set_option maxHeartbeats 4000000 in
theorem Reached_calls (v : Value) (l : List Mac) (hok : MacsOk l) (w : World) (h : rpMac.SL w w.heap.size l v) (R : Ending → World → Prop)
    (hR : ∀ w' g, Below w.heap.size w w' → w.heap.size ≤ g → w'.heap[g]? = some (.cells (boolsA (reachW l)) 4 (0, 0)) → R (.returned (.slice (some ⟨g, 0, none⟩) l.length l.length)) w') :
    Calls Tryd.prog 12 #[v] w R := by
  have hfew := hok.few
  have hpos := hok.some_
  obtain ⟨A, c, rfl, hmx, hcap, hs⟩ := h.cases_
  have HR := Lib.hid hR
  have Hs := Lib.hid hs
  have hmk := make_bools2 w l.length hfew
  obtain ⟨W0, hW0⟩ : ∃ W0, W0 = w.alloc (.cells (boolsA (List.replicate l.length false)) 4) := ⟨_, rfl⟩
  rw [← hW0] at hmk
  have hb0 : Below w.heap.size w W0 := by rw [hW0]; exact bl0
  have hblk0 : W0.heap[w.heap.size]? = some (.cells (boolsA (List.replicate l.length false)) 4 (0, 0)) := by rw [hW0]; exact heap_alloc_new _ _
  have q0 : W0.cell? ⟨w.heap.size, 0, none⟩ = some (.bool false) := by
    rw [blk_cell' hblk0, boolsA_get (by rw [List.length_replicate]; exact hpos), atB_none]
  have f0 : W0.frozen? ⟨w.heap.size, 0, none⟩ = false := by simp [World.frozen?, hblk0]
  have lG0 := blk_lt hblk0
  have hposI : (0 : Int) < (l.length : Int) := by omega
  have Hb1 := Lib.hid (hb0.setCell (p := ⟨w.heap.size, 0, none⟩) (Nat.le_refl _) (.bool true))
  have Hblk1 : Hid ((W0.setCell ⟨w.heap.size, 0, none⟩ (.bool true)).heap[w.heap.size]? = some (.cells (boolsA ((List.replicate l.length false).set 0 true)) 4 (0, 0))) := Lib.hid (by rw [block_set hblk0, boolsA_set])
  clear hR hs h hW0 hb0 hblk0
  go_enter Tryd.func12, Tryd.ntmps12
  go_wp2
  go_loopg [4] (leftR ((List.replicate l.length false).set 0 true) + 1) (fun g chg wr => ∃ (S : List Bool) (b : Bool), chg = .bool b ∧ g = leftR S + b.toNat ∧ Hid (GoodQ l S) ∧ Hid (b = false → ∀ i, i < l.length → atB S i = true → ∀ t ∈ nextL l i, atB S t.toNat = true) ∧ Hid (Below w.heap.size w wr) ∧ Hid (wr.heap[w.heap.size]? = some (.cells (boolsA S) 4 (0, 0))))
  case atStart => exact ⟨_, true, rfl, rfl, Lib.hid (GoodQ.begin hok), Lib.hid (fun h => (by cases h)), Hb1, Hblk1⟩
  case round =>
    obtain ⟨S, b, rfl, rfl, Hgood, Hcl, Hb, Hblk⟩ := hrel
    clear q0 f0 lG0 hmk
    cases b
    · have e := Hgood.out.done hok (Hcl.out rfl)
      have H1 := Lib.hid (HR.out _ _ Hb.out (Nat.le_refl _) (by rw [← e]; exact Hblk.out))
      clear e
      go_wp2
      exact H1.out
    · clear Hcl
      go_wp2
      go_loopg [4, 5] l.length (fun g chg i wx => ∃ (S' : List Bool) (b : Bool) (i' : Nat), chg = .bool b ∧ i = .int .i64 (i' : Int) ∧ i' ≤ l.length ∧ g = l.length - i' ∧ Hid (midQ l S S' b i') ∧ Hid (Below w.heap.size w wx) ∧ Hid (wx.heap[w.heap.size]? = some (.cells (boolsA S') 4 (0, 0))))
      case atStart => exact ⟨S, false, 0, rfl, rfl, Nat.zero_le _, rfl, Lib.hid ⟨Hgood.out, fun _ => ⟨rfl, fun k h1 h2 => absurd h1 (Nat.not_lt_zero _)⟩, fun h => by cases h⟩, Hb, Hblk⟩
      case round =>
        obtain ⟨S', b, k, rfl, rfl, hkn, rfl, Hmid, Hb2, Hblk2⟩ := hrel
        have hz2 := Hb2.out.size
        by_cases hk : k < l.length
        · have hSl := Hmid.out.1.len
          have hm := hok.at_ hk
          obtain ⟨b6, o6, rfl, hheld⟩ := mac_held Hs.out hk
          have hna := fun (T : List Bool) => next_all hok hk (S := T)
          have hjx := jump_next hk hm
          have hjn := fun hj : jumpsM (atL l k) = true => hm.jump (jumps_op.1 hj).1 (jumps_op.1 hj).2
          have q1 : wr.cell? ⟨w.heap.size, k, none⟩ = some (.bool (atB S' k)) := by rw [blk_cell' Hblk2.out]; exact boolsA_get (by omega)
          have lG : w.heap.size < wr.heap.size := blk_lt Hblk2.out
          have Hheld := Lib.hid hheld
          generalize atL l k = m at *
          obtain ⟨lb, c0, c1, c2, c3, c4⟩ := Hheld.out wr Hb2.out
          have Hjn := Lib.hid hjn
          have Hna := Lib.hid hna
          have Hjx := Lib.hid hjx
          have i0 : (0 : Int) ≤ (k : Int) := by omega
          have i1 : (k : Int) < (l.length : Int) := by omega
          clear hheld hjn hna hjx
          cases ha : atB S' k
          · rw [ha] at q1
            have Hmd := Lib.hid (Hmid.out.had (fun _ e => by rw [ha] at e; cases e))
            clear ha
            go_wp2
            go_roundg (l.length - (k + 1))
            case measure => omega
            case rel => exact ⟨S', b, k + 1, rfl, by go_num, by omega, rfl, Hmd, Hb2, Hblk2⟩
          · rw [ha] at q1
            have Ha := Lib.hid ha
            clear ha
            by_cases hn1 : k + 1 < l.length
            · have i2 : (k : Int) + 1 < (l.length : Int) := by omega
              have i3 : (0 : Int) ≤ (k : Int) + 1 := by omega
              go_wp2_with fail
              rw [show ((k : Int) + 1) = ((k + 1 : Nat) : Int) from by omega]
              refine Goes_calls _ l hok k (k + 1) hk (by omega) _ (Hs.out.up Hb2.out hz2) _ (fun w6 hb6 => ?_)
              have Hb6 := Lib.hid (Hb2.out.trans (hb6.mono hz2))
              have Hblk6 := Lib.hid ((hb6.block _ lG).trans Hblk2.out)
              clear hb6 c0 c1 c2 c3 c4 lb
              obtain ⟨lb, c0, c1, c2, c3, c4⟩ := Hheld.out w6 Hb6.out
              have lG6 : w.heap.size < w6.heap.size := blk_lt Hblk6.out
              have hz6 := Hb6.out.size
              have q3 : w6.cell? ⟨w.heap.size, k + 1, none⟩ = some (.bool (atB S' (k + 1))) := by rw [blk_cell' Hblk6.out]; exact boolsA_get (by omega)
              have f3 : w6.frozen? ⟨w.heap.size, k + 1, none⟩ = false := by simp [World.frozen?, Hblk6.out]
              cases hg : goesB l k (k + 1)
              · clear lb c0 c1 c2 c3 c4
                have Hb7 := Hb6
                have Hblk7 := Hblk6
                have hz7 := Hb7.out.size
                have lG7 := blk_lt Hblk7.out
                obtain ⟨lb, c0, c1, c2, c3, c4⟩ := Hheld.out w6 Hb7.out
                go_wp2_with fail
                refine jumping_calls m _ _ (fun w8 hb8 => ?_)
                have Hb8 := Lib.hid (Hb7.out.trans (hb8.mono hz7))
                have Hblk8 := Lib.hid ((hb8.block _ lG7).trans Hblk7.out)
                clear hb8 c0 c1 c2 c3 c4 lb
                obtain ⟨lb, c0, c1, c2, c3, c4⟩ := Hheld.out w8 Hb8.out
                have lG8 : w.heap.size < w8.heap.size := blk_lt Hblk8.out
                have hz8 := Hb8.out.size
                cases hj : jumpsM m
                · have Hmd := Lib.hid (Hmid.out.had (fun _ _ => Hna.out _ (fun _ e => by rw [hg] at e; cases e) (fun e => by rw [hj] at e; cases e)))
                  go_wp2
                  go_roundg (l.length - (k + 1))
                  case measure => omega
                  case rel => exact ⟨S', b, k + 1, rfl, by go_num, by omega, rfl, Hmd, Hb8, Hblk8⟩
                · obtain ⟨y, hy⟩ : ∃ y : Nat, m.n = (y : Int) := ⟨m.n.toNat, by have := Hjn.out hj; omega⟩
                  have hyl : y < l.length := by have := Hjn.out hj; omega
                  rw [hy] at c4
                  have y0 : (0 : Int) ≤ (y : Int) := by omega
                  have y1 : (y : Int) < (l.length : Int) := by omega
                  have hSl8 : (S').length = l.length := hSl
                  have q2 : w8.cell? ⟨w.heap.size, y, none⟩ = some (.bool (atB (S') y)) := by rw [blk_cell' Hblk8.out]; exact boolsA_get (by omega)
                  have f2 : w8.frozen? ⟨w.heap.size, y, none⟩ = false := by simp [World.frozen?, Hblk8.out]
                  have hjx := Hjx.out hj
                  rw [hy] at hjx
                  have hyn : m.n.toNat = y := by rw [hy, Int.toNat_natCast]
                  have Hyn := Lib.hid hyn
                  have Hjx2 := Lib.hid hjx
                  clear hy hyn hjx
                  cases hv : atB (S') y
                  · rw [hv] at q2
                    have Hmd := Lib.hid (midQ.new hok (j := k + 1) Hmid.out hk Ha.out Hjx2.out (by rw [Int.toNat_natCast]; exact hv))
                    rw [Int.toNat_natCast] at Hmd
                    clear hv
                    go_wp2
                    go_roundg (l.length - (k + 1))
                    case measure => omega
                    case rel => exact ⟨(S').set y true, true, k + 1, rfl, by go_num, by omega, rfl, Hmd, Lib.hid (Hb8.out.setCell (p := ⟨w.heap.size, y, none⟩) (Nat.le_refl _) _), Lib.hid (by rw [block_set Hblk8.out, boolsA_set])⟩
                  · rw [hv] at q2
                    have Hmd := Lib.hid (Hmid.out.had (fun _ _ => Hna.out _ (fun _ e => by rw [hg] at e; cases e) (fun _ => by rw [Hyn.out]; exact hv)))
                    clear hv
                    go_wp2
                    go_roundg (l.length - (k + 1))
                    case measure => omega
                    case rel => exact ⟨S', b, k + 1, rfl, by go_num, by omega, rfl, Hmd, Hb8, Hblk8⟩
              · cases hv1 : atB S' (k + 1)
                · rw [hv1] at q3
                  have Hm2 := Lib.hid (midQ.new hok (j := k) Hmid.out hk Ha.out (k := ((k + 1 : Nat) : Int)) (of_decide_eq_true hg) (by rw [Int.toNat_natCast]; exact hv1))
                  rw [Int.toNat_natCast] at Hm2
                  have Ha2 : Hid (atB (S'.set (k + 1) true) k = true) := Lib.hid (by rw [atB_set (by omega), if_neg (by omega)]; exact Ha.out)
                  have Hk2 : Hid (atB (S'.set (k + 1) true) (k + 1) = true) := Lib.hid (by rw [atB_set (by omega), if_pos rfl])
                  have HbS := Lib.hid (Hb6.out.setCell (p := ⟨w.heap.size, k + 1, none⟩) (Nat.le_refl _) (.bool true))
                  have HblkS : Hid ((w6.setCell ⟨w.heap.size, k + 1, none⟩ (.bool true)).heap[w.heap.size]? = some (.cells (boolsA (S'.set (k + 1) true)) 4 (0, 0))) := Lib.hid (by rw [block_set Hblk6.out, boolsA_set])
                  clear hv1
                  go_upto_region 13 with fail
                  obtain ⟨W7, hW7⟩ : ∃ W7, W7 = w6.setCell ⟨w.heap.size, k + 1, none⟩ (.bool true) := ⟨_, rfl⟩
                  rw [← hW7] at HbS HblkS ⊢
                  clear hW7 q1 q3 f3 lb c0 c1 c2 c3 c4
                  have Hb7 := HbS
                  have Hblk7 := HblkS
                  have hz7 := Hb7.out.size
                  have lG7 := blk_lt Hblk7.out
                  obtain ⟨lb, c0, c1, c2, c3, c4⟩ := Hheld.out W7 Hb7.out
                  go_wp2_with fail
                  refine jumping_calls m _ _ (fun w8 hb8 => ?_)
                  have Hb8 := Lib.hid (Hb7.out.trans (hb8.mono hz7))
                  have Hblk8 := Lib.hid ((hb8.block _ lG7).trans Hblk7.out)
                  clear hb8 c0 c1 c2 c3 c4 lb
                  obtain ⟨lb, c0, c1, c2, c3, c4⟩ := Hheld.out w8 Hb8.out
                  have lG8 : w.heap.size < w8.heap.size := blk_lt Hblk8.out
                  have hz8 := Hb8.out.size
                  cases hj : jumpsM m
                  · have Hmd := Lib.hid (Hm2.out.had (fun _ _ => Hna.out _ (fun _ _ => Hk2.out) (fun e => by rw [hj] at e; cases e)))
                    go_wp2
                    go_roundg (l.length - (k + 1))
                    case measure => omega
                    case rel => exact ⟨S'.set (k + 1) true, true, k + 1, rfl, by go_num, by omega, rfl, Hmd, Hb8, Hblk8⟩
                  · obtain ⟨y, hy⟩ : ∃ y : Nat, m.n = (y : Int) := ⟨m.n.toNat, by have := Hjn.out hj; omega⟩
                    have hyl : y < l.length := by have := Hjn.out hj; omega
                    rw [hy] at c4
                    have y0 : (0 : Int) ≤ (y : Int) := by omega
                    have y1 : (y : Int) < (l.length : Int) := by omega
                    have hSl8 : (S'.set (k + 1) true).length = l.length := by rw [List.length_set]; exact hSl
                    have q2 : w8.cell? ⟨w.heap.size, y, none⟩ = some (.bool (atB (S'.set (k + 1) true) y)) := by rw [blk_cell' Hblk8.out]; exact boolsA_get (by omega)
                    have f2 : w8.frozen? ⟨w.heap.size, y, none⟩ = false := by simp [World.frozen?, Hblk8.out]
                    have hjx := Hjx.out hj
                    rw [hy] at hjx
                    have hyn : m.n.toNat = y := by rw [hy, Int.toNat_natCast]
                    have Hyn := Lib.hid hyn
                    have Hjx2 := Lib.hid hjx
                    clear hy hyn hjx
                    cases hv : atB (S'.set (k + 1) true) y
                    · rw [hv] at q2
                      have Hmd := Lib.hid (midQ.new hok (j := k + 1) Hm2.out hk Ha2.out Hjx2.out (by rw [Int.toNat_natCast]; exact hv))
                      rw [Int.toNat_natCast] at Hmd
                      clear hv
                      go_wp2
                      go_roundg (l.length - (k + 1))
                      case measure => omega
                      case rel => exact ⟨(S'.set (k + 1) true).set y true, true, k + 1, rfl, by go_num, by omega, rfl, Hmd, Lib.hid (Hb8.out.setCell (p := ⟨w.heap.size, y, none⟩) (Nat.le_refl _) _), Lib.hid (by rw [block_set Hblk8.out, boolsA_set])⟩
                    · rw [hv] at q2
                      have Hmd := Lib.hid (Hm2.out.had (fun _ _ => Hna.out _ (fun _ _ => Hk2.out) (fun _ => by rw [Hyn.out]; exact hv)))
                      clear hv
                      go_wp2
                      go_roundg (l.length - (k + 1))
                      case measure => omega
                      case rel => exact ⟨S'.set (k + 1) true, true, k + 1, rfl, by go_num, by omega, rfl, Hmd, Hb8, Hblk8⟩
                · rw [hv1] at q3
                  have Hv1 := Lib.hid hv1
                  clear hv1 lb c0 c1 c2 c3 c4
                  have Hb7 := Hb6
                  have Hblk7 := Hblk6
                  have hz7 := Hb7.out.size
                  have lG7 := blk_lt Hblk7.out
                  obtain ⟨lb, c0, c1, c2, c3, c4⟩ := Hheld.out w6 Hb7.out
                  go_wp2_with fail
                  refine jumping_calls m _ _ (fun w8 hb8 => ?_)
                  have Hb8 := Lib.hid (Hb7.out.trans (hb8.mono hz7))
                  have Hblk8 := Lib.hid ((hb8.block _ lG7).trans Hblk7.out)
                  clear hb8 c0 c1 c2 c3 c4 lb
                  obtain ⟨lb, c0, c1, c2, c3, c4⟩ := Hheld.out w8 Hb8.out
                  have lG8 : w.heap.size < w8.heap.size := blk_lt Hblk8.out
                  have hz8 := Hb8.out.size
                  cases hj : jumpsM m
                  · have Hmd := Lib.hid (Hmid.out.had (fun _ _ => Hna.out _ (fun _ _ => Hv1.out) (fun e => by rw [hj] at e; cases e)))
                    go_wp2
                    go_roundg (l.length - (k + 1))
                    case measure => omega
                    case rel => exact ⟨S', b, k + 1, rfl, by go_num, by omega, rfl, Hmd, Hb8, Hblk8⟩
                  · obtain ⟨y, hy⟩ : ∃ y : Nat, m.n = (y : Int) := ⟨m.n.toNat, by have := Hjn.out hj; omega⟩
                    have hyl : y < l.length := by have := Hjn.out hj; omega
                    rw [hy] at c4
                    have y0 : (0 : Int) ≤ (y : Int) := by omega
                    have y1 : (y : Int) < (l.length : Int) := by omega
                    have hSl8 : (S').length = l.length := hSl
                    have q2 : w8.cell? ⟨w.heap.size, y, none⟩ = some (.bool (atB (S') y)) := by rw [blk_cell' Hblk8.out]; exact boolsA_get (by omega)
                    have f2 : w8.frozen? ⟨w.heap.size, y, none⟩ = false := by simp [World.frozen?, Hblk8.out]
                    have hjx := Hjx.out hj
                    rw [hy] at hjx
                    have hyn : m.n.toNat = y := by rw [hy, Int.toNat_natCast]
                    have Hyn := Lib.hid hyn
                    have Hjx2 := Lib.hid hjx
                    clear hy hyn hjx
                    cases hv : atB (S') y
                    · rw [hv] at q2
                      have Hmd := Lib.hid (midQ.new hok (j := k + 1) Hmid.out hk Ha.out Hjx2.out (by rw [Int.toNat_natCast]; exact hv))
                      rw [Int.toNat_natCast] at Hmd
                      clear hv
                      go_wp2
                      go_roundg (l.length - (k + 1))
                      case measure => omega
                      case rel => exact ⟨(S').set y true, true, k + 1, rfl, by go_num, by omega, rfl, Hmd, Lib.hid (Hb8.out.setCell (p := ⟨w.heap.size, y, none⟩) (Nat.le_refl _) _), Lib.hid (by rw [block_set Hblk8.out, boolsA_set])⟩
                    · rw [hv] at q2
                      have Hmd := Lib.hid (Hmid.out.had (fun _ _ => Hna.out _ (fun _ _ => Hv1.out) (fun _ => by rw [Hyn.out]; exact hv)))
                      clear hv
                      go_wp2
                      go_roundg (l.length - (k + 1))
                      case measure => omega
                      case rel => exact ⟨S', b, k + 1, rfl, by go_num, by omega, rfl, Hmd, Hb8, Hblk8⟩
            · have i2 : ¬ (k : Int) + 1 < (l.length : Int) := by omega
              clear lb c0 c1 c2 c3 c4
              have Hb7 := Hb2
              have Hblk7 := Hblk2
              have hz7 := Hb7.out.size
              have lG7 := blk_lt Hblk7.out
              obtain ⟨lb, c0, c1, c2, c3, c4⟩ := Hheld.out wr Hb7.out
              go_wp2_with fail
              refine jumping_calls m _ _ (fun w8 hb8 => ?_)
              have Hb8 := Lib.hid (Hb7.out.trans (hb8.mono hz7))
              have Hblk8 := Lib.hid ((hb8.block _ lG7).trans Hblk7.out)
              clear hb8 c0 c1 c2 c3 c4 lb
              obtain ⟨lb, c0, c1, c2, c3, c4⟩ := Hheld.out w8 Hb8.out
              have lG8 : w.heap.size < w8.heap.size := blk_lt Hblk8.out
              have hz8 := Hb8.out.size
              cases hj : jumpsM m
              · have Hmd := Lib.hid (Hmid.out.had (fun _ _ => Hna.out _ (fun e => absurd e hn1) (fun e => by rw [hj] at e; cases e)))
                go_wp2
                go_roundg (l.length - (k + 1))
                case measure => omega
                case rel => exact ⟨S', b, k + 1, rfl, by go_num, by omega, rfl, Hmd, Hb8, Hblk8⟩
              · obtain ⟨y, hy⟩ : ∃ y : Nat, m.n = (y : Int) := ⟨m.n.toNat, by have := Hjn.out hj; omega⟩
                have hyl : y < l.length := by have := Hjn.out hj; omega
                rw [hy] at c4
                have y0 : (0 : Int) ≤ (y : Int) := by omega
                have y1 : (y : Int) < (l.length : Int) := by omega
                have hSl8 : (S').length = l.length := hSl
                have q2 : w8.cell? ⟨w.heap.size, y, none⟩ = some (.bool (atB (S') y)) := by rw [blk_cell' Hblk8.out]; exact boolsA_get (by omega)
                have f2 : w8.frozen? ⟨w.heap.size, y, none⟩ = false := by simp [World.frozen?, Hblk8.out]
                have hjx := Hjx.out hj
                rw [hy] at hjx
                have hyn : m.n.toNat = y := by rw [hy, Int.toNat_natCast]
                have Hyn := Lib.hid hyn
                have Hjx2 := Lib.hid hjx
                clear hy hyn hjx
                cases hv : atB (S') y
                · rw [hv] at q2
                  have Hmd := Lib.hid (midQ.new hok (j := k + 1) Hmid.out hk Ha.out Hjx2.out (by rw [Int.toNat_natCast]; exact hv))
                  rw [Int.toNat_natCast] at Hmd
                  clear hv
                  go_wp2
                  go_roundg (l.length - (k + 1))
                  case measure => omega
                  case rel => exact ⟨(S').set y true, true, k + 1, rfl, by go_num, by omega, rfl, Hmd, Lib.hid (Hb8.out.setCell (p := ⟨w.heap.size, y, none⟩) (Nat.le_refl _) _), Lib.hid (by rw [block_set Hblk8.out, boolsA_set])⟩
                · rw [hv] at q2
                  have Hmd := Lib.hid (Hmid.out.had (fun _ _ => Hna.out _ (fun e => absurd e hn1) (fun _ => by rw [Hyn.out]; exact hv)))
                  clear hv
                  go_wp2
                  go_roundg (l.length - (k + 1))
                  case measure => omega
                  case rel => exact ⟨S', b, k + 1, rfl, by go_num, by omega, rfl, Hmd, Hb8, Hblk8⟩
        · obtain rfl : k = l.length := by omega
          go_wp2
          go_roundg (leftR S' + b.toNat)
          case measure =>
            cases b
            · rw [(Hmid.out.2.1 rfl).1]; simp
            · have := Hmid.out.2.2 rfl; simp; omega
          case rel => exact ⟨S', b, rfl, rfl, Lib.hid Hmid.out.1, Lib.hid (fun hb i hi => (Hmid.out.2.1 hb).2 i hi hi), Hb2, Hblk2⟩
end Go.Proofs.YtemakpjickbmnaaDoor

/- The document's rounds: what is quiet. -/
namespace Go.Proofs.YtemakpjickbmnaaDoor
open Go.RowKit
set_option linter.unusedSimpArgs false
set_option linter.unusedVariables false

set_option maxHeartbeats 400000 in
theorem Quiet_calls (m : Mac) (len : Nat) (hm : MacOk m len) (w : World) (R : Ending → World → Prop) (hR : ∀ w', Below w.heap.size w w' → R (.returned (.bool (quietM m))) w') :
    Calls Tryd.prog 14 #[.agg #[.int .i64 m.op, .int .i64 m.dst, .int .i64 m.a, .int .i64 m.b, .int .i64 m.n]] w R := by
  have h1 := hm.op1
  clear hm
  by_cases h8 : m.op = 8 ∨ m.op = 9
  · rw [show quietM m = false from by unfold quietM; rw [if_neg (by omega), if_neg (by omega), if_neg (by omega)]; rcases h8 with h | h <;> simp [h]] at hR
    have HR := Lib.hid hR
    clear hR h1
    rcases h8 with h | h
    · have i8 : (m.op == 8) = true := by simpa using h
      clear h
      go_enter Tryd.func14, Tryd.ntmps14
      go_wp2
      exact HR.out _ bl0
    · have i8 : (m.op == 8) = false := by simp; omega
      have i9 : (m.op == 9) = true := by simpa using h
      clear h
      go_enter Tryd.func14, Tryd.ntmps14
      go_wp2
      exact HR.out _ bl0
  have i8 : (m.op == 8) = false := by simp; omega
  have i9 : (m.op == 9) = false := by simp; omega
  by_cases h22 : m.op = 22 ∨ m.op = 23
  · rw [show quietM m = !decide (m.n = 0) from by unfold quietM; rw [if_neg (by omega), if_neg (by omega), if_pos h22]] at hR
    have HR := Lib.hid hR
    have i32 : m.op ≤ 32 := by omega
    clear hR h1 h8
    by_cases hn : m.n = 0
    · have i0 : (m.n == 0) = true := by simpa using hn
      rw [decide_eq_true hn, Bool.not_true] at HR
      clear hn
      rcases h22 with h | h
      · have i22 : (m.op == 22) = true := by simpa using h
        clear h i32
        go_enter Tryd.func14, Tryd.ntmps14
        go_wp2
        exact HR.out _ bl0
      · have i22 : (m.op == 22) = false := by simp; omega
        have i23 : (m.op == 23) = true := by simpa using h
        clear h i32
        go_enter Tryd.func14, Tryd.ntmps14
        go_wp2
        exact HR.out _ bl0
    · have i0 : (m.n == 0) = false := by simpa using hn
      rw [decide_eq_false hn, Bool.not_false] at HR
      clear hn
      rcases h22 with h | h
      · have i22 : (m.op == 22) = true := by simpa using h
        clear h
        go_enter Tryd.func14, Tryd.ntmps14
        go_wp2
        exact HR.out _ bl0
      · have i22 : (m.op == 22) = false := by simp; omega
        have i23 : (m.op == 23) = true := by simpa using h
        clear h
        go_enter Tryd.func14, Tryd.ntmps14
        go_wp2
        exact HR.out _ bl0
  have i22 : (m.op == 22) = false := by simp; omega
  have i23 : (m.op == 23) = false := by simp; omega
  by_cases h32 : m.op ≤ 32
  · rw [show quietM m = true from by
      unfold quietM
      by_cases h4 : 1 ≤ m.op ∧ m.op ≤ 4
      · rw [if_pos h4]
      · rw [if_neg h4, if_neg (by omega), if_neg h22, decide_eq_true (show 5 ≤ m.op ∧ m.op ≤ 32 by omega), decide_eq_false (show ¬ m.op = 8 by omega), decide_eq_false (show ¬ m.op = 9 by omega)]; rfl] at hR
    have HR := Lib.hid hR
    clear hR h1 h8 h22
    go_enter Tryd.func14, Tryd.ntmps14
    go_wp2
    exact HR.out _ bl0
  · by_cases h35 : m.op = 35
    · rw [show quietM m = true from by unfold quietM; rw [if_neg (by omega), if_pos h35]] at hR
      have HR := Lib.hid hR
      have i35 : (m.op == 35) = true := by simpa using h35
      have i32 : ¬ m.op ≤ 32 := by omega
      clear hR h1 h8 h22 h35 h32
      go_enter Tryd.func14, Tryd.ntmps14
      go_wp2
      exact HR.out _ bl0
    · rw [show quietM m = false from by unfold quietM; rw [if_neg (by omega), if_neg h35, if_neg h22, decide_eq_false (show ¬ (5 ≤ m.op ∧ m.op ≤ 32) by omega)]; rfl] at hR
      have HR := Lib.hid hR
      have i35 : (m.op == 35) = false := by simpa using h35
      have i32 : ¬ m.op ≤ 32 := by omega
      clear hR h1 h8 h22 h35 h32
      go_enter Tryd.func14, Tryd.ntmps14
      go_wp2
      exact HR.out _ bl0
end Go.Proofs.YtemakpjickbmnaaDoor

/- A row of rows of ints that are the call's own, each with a block of its own. -/
namespace Go.Proofs.YtemakpjickbmnaaDoor
open Go.RowKit
set_option linter.unusedSimpArgs false
set_option linter.unusedVariables false

theorem tab_keep {w w' : World} {base : Nat} {e : TypeId} {size n : Nat} {v : Value} {xs : List Value} (h : w.ownsRow base e size v n xs) (hk : ∀ k, v.ownBlock = some k → k < w.heap.size → w'.heap[k]? = w.heap[k]?) : w'.ownsRow base e size v n xs := by
  obtain ⟨h1, h2⟩ := h
  refine ⟨h1, ?_⟩
  rcases h2 with h2 | ⟨g, cap, cur, hv, hb, hh, r⟩
  · exact .inl h2
  · have e : v.ownBlock = some g := by rw [hv]; rfl
    exact .inr ⟨g, cap, cur, hv, hb, (hk g e (blk_lt hh)).trans hh, r⟩
def atT (V : List Value) (i : Nat) : Value := V.getD i (.slice none 0 0)
def atI (L : List (List Int)) (i : Nat) : List Int := L.getD i []
theorem atT_set {V : List Value} {i k : Nat} {x : Value} (h : i < V.length) : atT (V.set i x) k = if k = i then x else atT V k := by
  unfold atT
  simp only [List.getD_eq_getElem?_getD, List.getElem?_set]
  by_cases e : k = i
  · subst e; simp [h]
  · rw [if_neg (fun h => e h.symm), if_neg e]
theorem atI_set {V : List (List Int)} {i k : Nat} {x : List Int} (h : i < V.length) : atI (V.set i x) k = if k = i then x else atI V k := by
  unfold atI
  simp only [List.getD_eq_getElem?_getD, List.getElem?_set]
  by_cases e : k = i
  · subst e; simp [h]
  · rw [if_neg (fun h => e h.symm), if_neg e]
structure Tab (w : World) (base : Nat) (V : List Value) (L : List (List Int)) : Prop where
  len : V.length = L.length
  own : ∀ i, i < L.length → w.ownsRow base 3 1 (atT V i) (atI L i).length ((atI L i).flatMap intCells)
  apart : ∀ i j k, i < L.length → j < L.length → (atT V i).ownBlock = some k → (atT V j).ownBlock = some k → i = j
theorem Tab.lt {w : World} {base : Nat} {V : List Value} {L : List (List Int)} (h : Tab w base V L) {i k : Nat} (hi : i < L.length) (hk : (atT V i).ownBlock = some k) : base ≤ k ∧ k < w.heap.size := (h.own i hi).lt k hk
theorem Tab.keep {w w' : World} {base : Nat} {V : List Value} {L : List (List Int)} (h : Tab w base V L) (hk : ∀ k, base ≤ k → k < w.heap.size → w'.heap[k]? = w.heap[k]?) : Tab w' base V L :=
  ⟨h.len, fun i hi => tab_keep (h.own i hi) fun k e hl => hk k (h.lt hi e).1 hl, h.apart⟩
theorem Tab.first {w : World} {base n : Nat} : Tab w base (List.replicate n (.slice none 0 0)) (List.replicate n []) := by
  have e1 : ∀ i, atT (List.replicate n (Value.slice none 0 0)) i = .slice none 0 0 := fun i => by
    unfold atT; rw [List.getD_eq_getElem?_getD, List.getElem?_replicate]; split <;> rfl
  have e2 : ∀ i, atI (List.replicate n []) i = [] := fun i => by
    unfold atI; rw [List.getD_eq_getElem?_getD, List.getElem?_replicate]; split <;> rfl
  refine ⟨by simp, fun i hi => ?_, fun i j k hi hj h1 h2 => ?_⟩
  · rw [e1, e2]; exact World.ownsRow_nil _ _ _ _
  · rw [e1] at h1; cases h1
theorem Tab.push {w w' : World} {base : Nat} {V : List Value} {L : List (List Int)} (h : Tab w base V L) {i : Nat} (hi : i < L.length) {v' : Value} {x : List Int} (hown : w'.ownsRow base 3 1 v' x.length (x.flatMap intCells))
    (hg : w.grownBy w' (atT V i).ownBlock) (hat : v'.ownBlock = (atT V i).ownBlock ∨ v'.ownBlock = some w.heap.size) : Tab w' base (V.set i v') (L.set i x) := by
  have hi' : i < V.length := by rw [h.len]; exact hi
  have new : ∀ j k, j < L.length → j ≠ i → v'.ownBlock = some k → (atT V j).ownBlock ≠ some k := fun j k hj hne e1 e2 => by
    rcases hat with e | e
    · rw [e1] at e
      exact hne (h.apart j i k hj hi e2 e.symm)
    · rw [e1] at e
      have := (h.lt hj e2).2
      injection e with e
      omega
  refine ⟨by simp [h.len], fun j hj => ?_, fun a b k ha hb h1 h2 => ?_⟩
  · rw [List.length_set] at hj
    rw [atT_set hi', atI_set hi]
    by_cases e : j = i
    · rw [if_pos e, if_pos e]; exact hown
    · rw [if_neg e, if_neg e]
      exact tab_keep (h.own j hj) fun k ek hl => hg.block k hl fun e2 => e (h.apart j i k hj hi ek e2.symm)
  · rw [List.length_set] at ha hb
    rw [atT_set hi'] at h1 h2
    by_cases ea : a = i
    · by_cases eb : b = i
      · omega
      · rw [if_pos ea] at h1
        rw [if_neg eb] at h2
        exact absurd h2 (new b k hb eb h1)
    · by_cases eb : b = i
      · rw [if_pos eb] at h2
        rw [if_neg ea] at h1
        exact absurd h1 (new a k ha ea h2)
      · rw [if_neg ea] at h1
        rw [if_neg eb] at h2
        exact h.apart a b k ha hb h1 h2
/-- The table, read. -/
theorem Tab.SL {w : World} {base g : Nat} {V : List Value} {L : List (List Int)} {T : TypeId} (h : Tab w base V L) (hb : w.heap[g]? = some (.cells V.toArray T (0, 0))) (hm : L.length ≤ maxLen) : rpInt.slice.SL w w.heap.size L (.slice (some ⟨g, 0, none⟩) L.length L.length) := by
  refine ⟨_, _, rfl, hm, Nat.le_refl _, fun _ => ⟨g, 0, rfl, blk_lt hb, fun k x hk => ?_⟩⟩
  have hlt := (List.getElem?_eq_some_iff.1 hk).1
  have ex : atI L k = x := by unfold atI; rw [List.getD_eq_getElem?_getD, hk]; rfl
  refine ⟨[atT V k], ⟨_, rfl, ?_⟩, fun j u hj => ?_⟩
  · have := h.own k hlt
    rw [ex] at this
    exact SLint_own this (Nat.le_refl _)
  · match j, hj with
    | 0, hj =>
      injection hj with hj
      subst hj
      have hV : k < V.length := by rw [h.len]; exact hlt
      show w.cell? ⟨g, 0 + k * 1 + 0, none⟩ = _
      rw [show 0 + k * 1 + 0 = k from by omega]
      unfold atT
      rw [List.getD_eq_getElem?_getD, List.getElem?_eq_getElem hV]
      simp [World.cell?, hb, hV]
    | j + 1, hj => simp at hj
end Go.Proofs.YtemakpjickbmnaaDoor

/- The document's list of what is live. -/
namespace Go.Proofs.YtemakpjickbmnaaDoor
open Go.RowKit
set_option linter.unusedSimpArgs false
set_option linter.unusedVariables false

noncomputable def lvTo (l : List Mac) (r i : Nat) : List Int := ((List.range r).filter (fun q => liveB l i q)).map Int.ofNat
noncomputable def tabL (l : List Mac) (r k : Nat) : List (List Int) := (List.range l.length).map fun i => lvTo l (if i < k then r + 1 else r) i
theorem tabL_len (l : List Mac) (r k : Nat) : (tabL l r k).length = l.length := by simp [tabL]
theorem lvTo_step (l : List Mac) (r i : Nat) : lvTo l (r + 1) i = lvTo l r i ++ (if liveB l i r = true then [(r : Int)] else []) := by
  unfold lvTo
  rw [List.range_succ, List.filter_append, List.map_append]
  congr 1
  by_cases h : liveB l i r = true
  · simp [h]
  · simp [h]
theorem lvTo_len (l : List Mac) (r i : Nat) : (lvTo l r i).length ≤ r := by
  unfold lvTo
  rw [List.length_map]
  exact Nat.le_trans (List.length_filter_le _ _) (by simp)
theorem tabL_at {l : List Mac} {r k i : Nat} (hi : i < l.length) : atI (tabL l r k) i = lvTo l (if i < k then r + 1 else r) i := by
  unfold atI tabL
  rw [List.getD_eq_getElem?_getD, List.getElem?_map, List.getElem?_range hi]
  rfl
theorem ext_atI {S S' : List (List Int)} (h : S.length = S'.length) (he : ∀ i, i < S.length → atI S i = atI S' i) : S = S' := by
  apply List.ext_getElem h
  intro i h1 h2
  have := he i h1
  unfold atI at this
  rw [List.getD_eq_getElem?_getD, List.getD_eq_getElem?_getD, List.getElem?_eq_getElem h1, List.getElem?_eq_getElem h2] at this
  simpa using this
theorem tabL_hit {l : List Mac} {r k : Nat} (hk : k < l.length) (h : liveB l k r = true) : tabL l r (k + 1) = (tabL l r k).set k (lvTo l r k ++ [(r : Int)]) := by
  refine ext_atI (by simp [tabL_len]) fun i hi => ?_
  rw [tabL_len] at hi
  rw [atI_set (by rw [tabL_len]; exact hk), tabL_at hi, tabL_at hi]
  by_cases e : i = k
  · subst e
    rw [if_pos rfl, if_pos (Nat.lt_succ_self _), lvTo_step, if_pos h]
  · rw [if_neg e]
    by_cases e2 : i < k
    · rw [if_pos e2, if_pos (by omega)]
    · rw [if_neg e2, if_neg (by omega)]
theorem tabL_miss {l : List Mac} {r k : Nat} (h : liveB l k r = false) : tabL l r (k + 1) = tabL l r k := by
  refine ext_atI (by simp [tabL_len]) fun i hi => ?_
  rw [tabL_len] at hi
  rw [tabL_at hi, tabL_at hi]
  by_cases e : i = k
  · subst e
    rw [if_pos (Nat.lt_succ_self _), if_neg (Nat.lt_irrefl _), lvTo_step, h]
    simp
  · by_cases e2 : i < k
    · rw [if_pos e2, if_pos (by omega)]
    · rw [if_neg e2, if_neg (by omega)]
theorem tabL_next (l : List Mac) (r : Nat) : tabL l r l.length = tabL l (r + 1) 0 := by
  refine ext_atI (by simp [tabL_len]) fun i hi => ?_
  rw [tabL_len] at hi
  rw [tabL_at hi, tabL_at hi, if_pos hi, if_neg (Nat.not_lt_zero _)]
theorem tabL_first (l : List Mac) : tabL l 0 0 = List.replicate l.length [] := by
  refine ext_atI (by simp [tabL_len]) fun i hi => ?_
  rw [tabL_len] at hi
  rw [tabL_at hi, if_neg (Nat.not_lt_zero _)]
  unfold atI lvTo
  simp [List.getD_eq_getElem?_getD, List.getElem?_replicate, hi]
theorem tabL_end (l : List Mac) : tabL l 16 0 = liveL l := by
  refine ext_atI (by simp [tabL_len, liveL, liveTo]) fun i hi => ?_
  rw [tabL_len] at hi
  rw [tabL_at hi, if_neg (Nat.not_lt_zero _)]
  unfold atI liveL liveTo
  rw [List.getD_eq_getElem?_getD, List.getElem?_map, List.getElem?_range hi]
  rfl

theorem make_rows (W : World) (n : Nat) (hn : n ≤ 5000) : (Instr.makeSlice 32 (.int .i64 (n : Int)) (.int .i64 (n : Int))).run Tryd.prog W = .ok (.slice (some ⟨W.heap.size, 0, none⟩) n n) (W.alloc (.cells (List.replicate n (Value.slice none 0 0)).toArray 22)) := by
  obtain ⟨iB, hi, z0, z1, z2⟩ := info_parts info_ints
  have h := run_make (P := Tryd.prog) W 32 22 iB _ Tryd.underlying32 hi z0 .i64 .i64 (n : Int) (n : Int) (by omega) (Int.le_refl _) (by rw [z2]; omega) (by omega)
  rw [z1] at h
  simp only [Int.toNat_natCast, Nat.mul_one] at h
  have e : madeCells (Value.slice none 0 0).cells n = (List.replicate n (Value.slice none 0 0)).toArray := by
    unfold madeCells
    apply Array.ext
    · simp
    · intro i h1 h2
      simp [Value.cells, Nat.mod_one]
  rw [e] at h
  exact h
theorem app_one {ops : Array Oper} {rest : List Oper} {o : Oper} {a : Act} {w : World} {Q : Exit → Act → World → Prop} (hgd : o.guard = none) (s x : Operand) (ho : o.op = .call { callee := .builtin .append, args := #[s, x], argTypes := #[22, 22] })
    {base : Nat} {v : Value} {xs : List Int} (hs : a.eval s = v) (hown : w.ownsRow base 3 1 v xs.length (xs.flatMap intCells)) (g : Nat) (y : Int) (hx : a.eval x = .slice (some ⟨g, 0, none⟩) 1 1) (hg : w.heap[g]? = some (.cells #[.int .i64 y] 3 (0, 0))) (hfew : xs.length ≤ 100) (hbase : base ≤ w.heap.size)
    (h : ∀ v' w', w'.ownsRow base 3 1 v' (xs ++ [y]).length ((xs ++ [y]).flatMap intCells) → w.grownBy w' v.ownBlock → (v'.ownBlock = v.ownBlock ∨ v'.ownBlock = some w.heap.size) → wpList Tryd.prog ops Q rest (a.put o.dst v') w') : wpList Tryd.prog ops Q (o :: rest) a w := by
  obtain ⟨i0, hi0, hz0, hz1, hz2⟩ := info_parts info_int3
  refine wpList_append_own_at w hgd s x 22 ho base 3 i0 _ 1 8 Tryd.underlying22 hi0 hz0 hz1 hz2 rfl (by decide) v xs.length (xs.flatMap intCells) hs hown ⟨g, 0, none⟩ 1 1 ([y].flatMap intCells) hx rfl (fun j u hj => ?_) (one_int [y]) (by unfold maxLen; omega) (by omega) hbase (fun v' w' h1 h2 _ h3 => h v' w' ?_ h2 h3)
  · match j, hj with
    | 0, hj =>
      have e : u = .int .i64 y := by
        have : (some (Value.int .i64 y)) = some u := hj
        exact (Option.some.inj this).symm
      rw [e, Addr.add_lit]
      simp [World.cell?, hg]
    | j + 1, hj => simp [intCells] at hj
  · rw [List.length_append, List.flatMap_append]
    exact h1
theorem Tab.not {w : World} {base : Nat} {V : List Value} {L : List (List Int)} (h : Tab w base V L) {i b : Nat} (hi : i < L.length) {A : Array Value} {T : TypeId} {fr : Nat × Nat} (hb : w.heap[b]? = some (.cells A T fr)) (hT : T ≠ 3) : some b ≠ (atT V i).ownBlock := by
  intro e
  rcases (h.own i hi).2 with ⟨hn, _⟩ | ⟨g', cap, cur, hv, _, hh, _⟩
  · rw [hn] at e; cases e
  · rw [hv] at e
    obtain rfl : b = g' := Option.some.inj e
    rw [hb] at hh
    injection hh with hh
    injection hh with _ h2
    exact hT h2
theorem liveC_at {l : List Mac} {r k : Nat} (hk : k < l.length) : atB (liveC l r) k = liveB l k r := atB_map hk
set_option maxRecDepth 100000 in
set_option maxHeartbeats 2000000 in
theorem MacLive_calls (v : Value) (l : List Mac) (hok : MacsOk l) (w : World) (h : rpMac.SL w w.heap.size l v) (R : Ending → World → Prop)
    (hR : ∀ w' v', Below w.heap.size w w' → rpInt.slice.SL w' w'.heap.size (liveL l) v' → R (.returned (.tuple #[v', .agg #[.int .i64 0, .int .i64 0]])) w') :
    Calls Tryd.prog 13 #[v] w R := by
  have hfew := hok.few
  have hpos := hok.some_
  obtain ⟨A, c, rfl, hmx, hcap, hs⟩ := h.cases_
  have Hcode := Lib.hid (macsOk_iff.2 hok)
  have HR := Lib.hid hR
  have Hs := Lib.hid hs
  clear hR hs h
  go_enter Tryd.func13, Tryd.ntmps13
  go_wp2_with fail
  refine RefMacCheck_calls _ l _ (Hs.out.up (by exact bl0) (by simp)) _ (fun w1 hb1 => ?_)
  rw [Hcode.out]
  have hE : w1.heap[w.heap.size]? = some (.cells #[.int .i64 0, .int .i64 0] 25 (0, 0)) := (hb1.block _ (by simp)).trans (heap_alloc_new _ _)
  have hb1' : Below w.heap.size w w1 := (by exact bl0 : Below w.heap.size w _).trans (hb1.mono (by simp))
  obtain ⟨g, hg⟩ : ∃ g, g = w1.heap.size + 1 := ⟨_, rfl⟩
  have hmk := make_rows (w1.alloc (Obj.cells #[.int .i64 0, .int .i64 0] 25)) l.length hfew
  obtain ⟨W2, hW2⟩ : ∃ W2, W2 = (w1.alloc (Obj.cells #[.int .i64 0, .int .i64 0] 25)).alloc (.cells (List.replicate l.length (Value.slice none 0 0)).toArray 22) := ⟨_, rfl⟩
  have hsz : (w1.alloc (Obj.cells #[.int .i64 0, .int .i64 0] 25)).heap.size = g := by rw [hg]; simp
  have hblk2 : W2.heap[g]? = some (.cells (List.replicate l.length (Value.slice none 0 0)).toArray 22 (0, 0)) := by rw [hW2, ← hsz]; exact heap_alloc_new _ _
  rw [← hW2, hsz] at hmk
  have hb2 : Below w.heap.size w W2 := by
    rw [hW2]
    exact hb1'.trans ((by exact bl0 : Below w1.heap.size w1 _).mono hb1'.size)
  have hE2 : W2.heap[w.heap.size]? = some (.cells #[.int .i64 0, .int .i64 0] 25 (0, 0)) := by rw [hW2]; exact blk_alloc (blk_alloc hE _) _
  have Hb2 := Lib.hid hb2
  have Hblk2 := Lib.hid hblk2
  have HE2 := Lib.hid hE2
  have Htab2 : Hid (Tab W2 (g + 1) (List.replicate l.length (.slice none 0 0)) (tabL l 0 0)) := Lib.hid (by rw [tabL_first]; exact Tab.first)
  have hgw : w.heap.size < g := by have := hb1'.size; omega
  clear hb1 hb1' hE hW2 hb2 hblk2 hE2 hg hsz
  go_wp2
  go_loopg [6] 16 (fun gh s6 wr => ∃ (r : Nat) (V : List Value), r ≤ 16 ∧ gh = 16 - r ∧ s6 = .int .i64 (r : Int) ∧ Hid (Tab wr (g + 1) V (tabL l r 0)) ∧ Hid (Below w.heap.size w wr) ∧ Hid (wr.heap[g]? = some (.cells V.toArray 22 (0, 0))) ∧ Hid (wr.heap[w.heap.size]? = some (.cells #[.int .i64 0, .int .i64 0] 25 (0, 0))))
  case atStart => exact ⟨0, _, by omega, rfl, rfl, Htab2, Hb2, Hblk2, HE2⟩
  case round =>
    obtain ⟨r, V, hr16, rfl, rfl, Htab, Hb, Hblk, HE⟩ := hrel
    clear Htab2 Hb2 Hblk2 HE2 hmk
    have hz := Hb.out.size
    by_cases hr : r < 16
    · have hrI : (r : Int) < 16 := by omega
      go_wp2_with fail
      refine LiveOne_calls _ l hok r hr _ (Hs.out.up Hb.out hz) _ (fun w5 g5 hb5 hg5 hblk5 => ?_)
      have Htab5 := Lib.hid (Htab.out.keep (fun k _ hl => hb5.block k hl))
      have HblkV5 := Lib.hid ((hb5.block _ (blk_lt Hblk.out)).trans Hblk.out)
      have HE5 := Lib.hid ((hb5.block _ (blk_lt HE.out)).trans HE.out)
      have Hb5 := Lib.hid (Hb.out.trans (hb5.mono hz))
      have Hblk5 := Lib.hid hblk5
      have hgg : g < g5 := Nat.lt_of_lt_of_le (blk_lt Hblk.out) hg5
      clear hg5
      clear hb5 hblk5 Htab Hb Hblk HE
      go_wp2
      go_loopg [8] l.length (fun gh s8 wx => ∃ (k : Nat) (V' : List Value), k ≤ l.length ∧ gh = l.length - k ∧ s8 = .int .i64 (k : Int) ∧ Hid (Tab wx (g + 1) V' (tabL l r k)) ∧ Hid (Below w.heap.size w wx) ∧ Hid (wx.heap[g]? = some (.cells V'.toArray 22 (0, 0))) ∧ Hid (wx.heap[w.heap.size]? = some (.cells #[.int .i64 0, .int .i64 0] 25 (0, 0))) ∧ Hid (wx.heap[g5]? = some (.cells (boolsA (liveC l r)) 4 (0, 0))))
      case atStart => exact ⟨0, V, Nat.zero_le _, rfl, rfl, Htab5, Hb5, HblkV5, HE5, Hblk5⟩
      case round =>
        obtain ⟨k, V', hkl, rfl, rfl, Htab6, Hb6, HblkV6, HE6, Hblk6⟩ := hrel
        clear Htab5 Hb5 HblkV5 HE5 Hblk5
        by_cases hk : k < l.length
        · have i1 : (k : Int) < (l.length : Int) := by omega
          have i0 : (0 : Int) ≤ (k : Int) := by omega
          have q1 : wr.cell? ⟨g5, k, none⟩ = some (.bool (liveB l k r)) := by rw [blk_cell' Hblk6.out, boolsA_get (by simp [liveC]; exact hk), liveC_at hk]
          have lG5 := blk_lt Hblk6.out
          have lG := blk_lt HblkV6.out
          have hTL := tabL_len l r k
          cases hv : liveB l k r
          · rw [hv] at q1
            have Hm := Lib.hid (tabL_miss (k := k) hv)
            clear hv hTL
            go_wp2
            go_roundg (l.length - (k + 1))
            case measure => omega
            case rel => exact ⟨k + 1, V', by omega, rfl, by go_num, by rw [Hm.out]; exact Htab6, Hb6, HblkV6, HE6, Hblk6⟩
          · rw [hv] at q1
            have Hm := Lib.hid (tabL_hit hk hv)
            have hVl : k < V'.length := by rw [Htab6.out.len, hTL]; exact hk
            have hkT : k < (tabL l r k).length := by rw [hTL]; exact hk
            have ho := Htab6.out.own k hkT
            rw [tabL_at hk, if_neg (Nat.lt_irrefl _)] at ho
            have hfw : (lvTo l r k).length ≤ 100 := Nat.le_trans (lvTo_len l r k) (by omega)
            have q2 : wr.cell? ⟨g, k, none⟩ = some (atT V' k) := by
              rw [blk_cell' HblkV6.out]
              unfold atT
              rw [List.getD_eq_getElem?_getD, List.getElem?_eq_getElem hVl]
              simp [hVl]
            obtain ⟨A6, c6, hs6⟩ := own_slice ho
            have n1 := Htab6.out.not hkT HblkV6.out (by decide)
            have n2 := Htab6.out.not hkT HE6.out (by decide)
            have n3 := Htab6.out.not hkT Hblk6.out (by decide)
            have hpush := fun (W1 : World) (hk1 : ∀ k, g + 1 ≤ k → k < wr.heap.size → W1.heap[k]? = wr.heap[k]?) (w' : World) (v' : Value) (h1 : w'.ownsRow (g + 1) 3 1 v' (lvTo l r k ++ [(r : Int)]).length ((lvTo l r k ++ [(r : Int)]).flatMap intCells)) => (Htab6.out.keep hk1).push (w' := w') hkT h1
            have hlt6 := fun k (e : (atT V' k).ownBlock = some k) => e
            have hlo := fun j (e : (atT V' k).ownBlock = some j) => (Htab6.out.lt hkT e).1
            clear hlt6
            rw [hs6] at hlo
            have Hlo := Lib.hid hlo
            clear hlo
            rw [hs6] at q2 ho n1 n2 n3 hpush
            have Ho := Lib.hid ho
            have Hpush := Lib.hid hpush
            have Hn := Lib.hid (And.intro n1 (And.intro n2 n3))
            have HVl := Lib.hid hVl
            have Hfw := Lib.hid hfw
            clear hv hTL ho hpush n1 n2 n3 hVl hs6 hkT hfw
            generalize lvTo l r k = X at *
            have hz6 := Hb6.out.size
            have f2 : wr.frozen? ⟨g, k, none⟩ = false := by simp [World.frozen?, HblkV6.out]
            have Hal := Lib.hid (show ∀ k, g + 1 ≤ k → k < wr.heap.size → (wr.alloc (Obj.cells #[.int .i64 (r : Int)] 3)).heap[k]? = wr.heap[k]? from fun k _ hl => (by exact bl0 : Below wr.heap.size wr (wr.alloc (Obj.cells #[.int .i64 (r : Int)] 3))).block k hl)
            have Hbal := Lib.hid (Hb6.out.alloc hz6 (Obj.cells #[.int .i64 (r : Int)] 3))
            have hgr : g + 1 ≤ (wr.alloc (Obj.cells #[.int .i64 (r : Int)] 3)).heap.size := by simp; omega
            go_wp2_with (at_builtin; refine app_one rfl _ _ rfl (v := .slice A6 X.length c6) rfl (Ho.out.alloc _) wr.heap.size (r : Int) rfl (heap_alloc_new _ _) Hfw.out hgr ?_)
            intro v7 w7 hown7 hg7 hat7
            have hown8 : w7.ownsRow (g + 1) 3 1 v7 (X ++ [(r : Int)]).length ((X ++ [(r : Int)]).flatMap intCells) := by simpa using hown7
            clear hown7
            have Htab7 := Hpush.out _ Hal.out _ _ hown8 hg7 (by rw [show (wr.alloc (Obj.cells #[.int .i64 (r : Int)] 3)).heap.size = wr.heap.size + 1 from by simp]; exact hat7)
            have hE7 := (hg7.block _ (by simp; omega) Hn.out.2.1).trans (blk_alloc HE6.out _)
            have hV7 := (hg7.block _ (by simp; omega) Hn.out.1).trans (blk_alloc HblkV6.out _)
            have hG7 := (hg7.block _ (by simp; omega) Hn.out.2.2).trans (blk_alloc Hblk6.out _)
            have hb7 := Hbal.out.trans ((Grew.of_grown hg7).below (B := w.heap.size) (fun j hj e => by have := Hlo.out j e; omega) (by simp; omega))
            obtain ⟨A7, c7, rfl⟩ := own_slice hown8
            generalize (X ++ [(r : Int)]).length = N7 at *
            have HE7 := Lib.hid hE7
            have HV7 := Lib.hid hV7
            have HG7 := Lib.hid hG7
            have Hb7 := Lib.hid hb7
            have HT7 := Lib.hid Htab7
            have q7 : w7.cell? ⟨g, k, none⟩ = some (.slice A6 X.length c6) := hg7.cell (by rw [World.cell?_alloc_lt _ _ _ (show g < wr.heap.size from lG)]; exact q2) Hn.out.1
            have f7 : w7.frozen? ⟨g, k, none⟩ = false := by simp [World.frozen?, hV7]
            have l7 : g < w7.heap.size := blk_lt hV7
            clear hown8 hg7 hat7 Htab7 hE7 hV7 hG7 hb7 q1 q2 f2 lG lG5 hgr Hlo Hpush Hal Hbal
            go_wp2
            go_roundg (l.length - (k + 1))
            case measure => omega
            case rel =>
              refine ⟨k + 1, V'.set k (.slice A7 N7 c7), by omega, rfl, by go_num, ?_, Lib.hid (Hb7.out.setCell (p := ⟨g, k, none⟩) (by show w.heap.size ≤ g; omega) _), Lib.hid ?_, Lib.hid ?_, Lib.hid ?_⟩
              · rw [Hm.out]
                exact Lib.hid (HT7.out.keep (fun k' h1 _ => Below.heap_setCell _ _ _ _ (by show k' ≠ g; omega)))
              · rw [block_set HV7.out, List.setIfInBounds_toArray]
              · exact (Below.heap_setCell _ _ _ _ (by show w.heap.size ≠ g; omega)).trans HE7.out
              · exact (Below.heap_setCell _ _ _ _ (by show g5 ≠ g; omega)).trans HG7.out
        · obtain rfl : k = l.length := by omega
          have Hn := Lib.hid (tabL_next l r)
          go_wp2
          go_roundg (16 - (r + 1))
          case measure => omega
          case rel => exact ⟨r + 1, V', by omega, rfl, by go_num, by rw [← Hn.out]; exact Htab6, Hb6, HblkV6, HE6⟩
    · obtain rfl : r = 16 := by omega
      obtain ⟨e0, e1⟩ := cells_blk HE.out
      have hlr := blk_lt HE.out
      have f0 : wr.frozen? ⟨w.heap.size, 0, none⟩ = false := by simp [World.frozen?, HE.out]
      have f1 : wr.frozen? ⟨w.heap.size, 1, none⟩ = false := by simp [World.frozen?, HE.out]
      go_wp2
      refine bodyPost_ret (v := .tuple #[.slice (some ⟨g, 0, none⟩) l.length l.length, .agg #[.int .i64 0, .int .i64 0]]) (res_slice_Fault (by rfl) (by rfl) (by rfl) (cells_blk (T := 25) (by exact (blkp HE.out)))) rfl ?_
      refine HR.out _ _ ((Hb.out.setCell (p := ⟨w.heap.size, 0, none⟩) (Nat.le_refl _) _).setCell (p := ⟨w.heap.size, 1, none⟩) (Nat.le_refl _) _) ?_
      have hk2 : ∀ k, g ≤ k → ((wr.setCell ⟨w.heap.size, 0, none⟩ (.int .i64 0)).setCell ⟨w.heap.size, 1, none⟩ (.int .i64 0)).heap[k]? = wr.heap[k]? := fun k hk => (Below.heap_setCell _ _ _ _ (by show k ≠ w.heap.size; omega)).trans (Below.heap_setCell _ _ _ _ (by show k ≠ w.heap.size; omega))
      have hsl := (Htab.out.keep (fun k h1 _ => hk2 k (by omega))).SL ((hk2 g (Nat.le_refl _)).trans Hblk.out) (by rw [tabL_len]; unfold maxLen; omega)
      rw [tabL_end, show (liveL l).length = l.length from by simp [liveL, liveTo]] at hsl
      exact hsl
end Go.Proofs.YtemakpjickbmnaaDoor

/- PeepReach, plainly. -/
namespace Go.Proofs.YtemakpjickbmnaaDoor
theorem rule_no {l : List Mac} (h : onceP l = none) {i : Nat} (hi : i < l.length) {j : Nat} (hj : j < 11) : ruleR l i j = none :=
  range_none.1 (range_none.1 h i hi) j hj
theorem left_reached {l : List Mac} (h : onceP l = none) {i : Nat} (hi : i < l.length) : reachB l i = true := by
  have := rule_no h hi (j := 0) (by omega)
  simp only [ruleR, lostR] at this
  by_cases hr : reachB l i = true
  · exact hr
  · rw [if_neg hr] at this; cases this
theorem left_itself {l : List Mac} (h : onceP l = none) {i : Nat} (hi : i < l.length) : ¬ ((atL l i).op = 2 ∧ (atL l i).dst = (atL l i).a) := by
  have := rule_no h hi (j := 1) (by omega)
  simp only [ruleR, itselfR] at this
  intro hr
  rw [if_pos hr] at this; cases this
theorem left_short {l : List Mac} (h : onceP l = none) {i : Nat} (hi : i < l.length) : ¬ (jumpsM (atL l i) = true ∧ (atL l i).n = (i : Int) + 1) := by
  have := rule_no h hi (j := 2) (by omega)
  simp only [ruleR, shortR] at this
  intro hr
  rw [if_pos hr] at this; cases this
theorem left_live {l : List Mac} (h : onceP l = none) {i : Nat} (hi : i < l.length) (hq : quietM (atL l i) = true) : i + 1 < l.length → liveB l (i + 1) (atL l i).dst.toNat = true := by
  have := rule_no h hi (j := 4) (by omega)
  simp only [ruleR, vainR] at this
  intro _
  by_cases hb : behB l i (atL l i).dst.toNat = false
  · rw [if_pos ⟨hq, hb⟩] at this; cases this
  · have hb' : behB l i (atL l i).dst.toNat = true := by simpa using hb
    obtain ⟨k, hs, hL⟩ := behB_iff.1 hb'
    rcases hs.2 with ⟨_, _, e⟩ | ⟨hj, e⟩
    · rw [← e]; exact liveB_iff.2 hL
    · exfalso
      have h37 : 37 ≤ (atL l i).op ∧ (atL l i).op ≤ 43 := by simpa [jumpsM] using hj
      unfold quietM at hq
      rw [if_neg (by omega), if_neg (by omega), if_neg (by omega), decide_eq_false (show ¬ (5 ≤ (atL l i).op ∧ (atL l i).op ≤ 32) by omega)] at hq
      simp at hq
end Go.Proofs.YtemakpjickbmnaaDoor
