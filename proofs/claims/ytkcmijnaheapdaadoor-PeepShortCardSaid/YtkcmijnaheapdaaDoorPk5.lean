/- Package peep: what is known of code. -/
import Derived.Test.YtkcmijnaheapdaaDoorBase
import Derived.Test.YtkcmijnaheapdaaDoorRows
import Derived.IntWalk
import Derived.Outline
import Derived.Deep.LoopGhost
import Derived.Deep.RegionLaw
import Derived.Deep.CutBlock
import Derived.Deep.DeepCutAuto
import Derived.Laws.MakeOwn
import Derived.Laws.AppendOwnNone
import Derived.Test.YtkcmijnaheapdaaDoorPk4
import Derived.Test.YtkcmijnaheapdaaDoorPkR
namespace Go.Proofs.YtkcmijnaheapdaaDoor
open Go.RowKit
set_option linter.unusedSimpArgs false
set_option linter.unusedVariables false

def boolsA (S : List Bool) : Array Value := (S.map Value.bool).toArray
theorem boolsA_get {S : List Bool} {k : Nat} (h : k < S.length) : (boolsA S)[k]? = some (.bool (atB S k)) := by
  unfold boolsA atB
  rw [List.getElem?_toArray, List.getElem?_map, List.getElem?_eq_getElem h, List.getD_eq_getElem?_getD, List.getElem?_eq_getElem h]
  rfl
theorem boolsA_set {S : List Bool} {k : Nat} (x : Bool) : (boolsA S).setIfInBounds k (.bool x) = boolsA (S.set k x) := by
  unfold boolsA
  rw [List.setIfInBounds_toArray, List.map_set]
theorem info_bool2 : (Tryd.prog.info? 4).map (fun i => (i.zero, i.size, i.bytes)) = some (some (.bool false), 1, 1) := by kernel_rfl
theorem make_bools2 (W : World) (n : Nat) (hn : n ≤ 5000) : (Instr.makeSlice 77 (.int .i64 (n : Int)) (.int .i64 (n : Int))).run Tryd.prog W = .ok (.slice (some ⟨W.heap.size, 0, none⟩) n n) (W.alloc (.cells (boolsA (List.replicate n false)) 4)) := by
  obtain ⟨iB, hi, z0, z1, z2⟩ := info_parts info_bool2
  have h := run_make (P := Tryd.prog) W 77 4 iB _ Tryd.underlying77 hi z0 .i64 .i64 (n : Int) (n : Int) (by omega) (Int.le_refl _) (by rw [z2]; omega) (by omega)
  rw [z1] at h
  simp only [Int.toNat_natCast, Nat.mul_one] at h
  have e : madeCells (Value.bool false).cells n = boolsA (List.replicate n false) := by
    unfold madeCells boolsA
    apply Array.ext
    · simp
    · intro i h1 h2
      simp [Value.cells, Nat.mod_one]
  rw [e] at h
  exact h
theorem bools_blk {w : World} {g B : Nat} {S : List Bool} {T : TypeId} {fr : Nat × Nat} (h : w.heap[g]? = some (.cells (boolsA S) T fr)) (hB : w.heap.size ≤ B) (hm : S.length ≤ maxLen) : rpBool.SL w B S (.slice (some ⟨g, 0, none⟩) S.length S.length) := by
  refine ⟨_, _, rfl, hm, Nat.le_refl _, fun _ => ⟨g, 0, rfl, by have := blk_lt h; omega, fun k x hk => ⟨_, rfl, fun j u hj => ?_⟩⟩⟩
  cases j with
  | zero =>
    simp at hj
    subst hj
    have : w.cell? ⟨g, k, none⟩ = some (.bool x) := by simp [World.cell?, h, boolsA, hk]
    simpa [rpBool] using this
  | succ j => simp at hj
/-- The window on the way: its variable, its rows. -/
structure LkW (w wr : World) (l : List Mac) (v vl : Value) (p gr gm b : Nat) (S M : List Bool) : Prop where
  hp : wr.heap[p]? = some (.cells #[v, vl, .slice (some ⟨gr, 0, none⟩) l.length l.length, .slice (some ⟨gm, 0, none⟩) l.length l.length] 185 (0, 0))
  hr : wr.heap[gr]? = some (.cells (boolsA S) 4 (0, 0))
  hm : wr.heap[gm]? = some (.cells (boolsA M) 4 (0, 0))
  bel : Below w.heap.size w wr
  live : rpInt.slice.SLF wr b wr.heap.size (liveL l) vl
  lt : p < b ∧ gr < b ∧ gm < b
  ge : w.heap.size ≤ p ∧ w.heap.size ≤ gr ∧ w.heap.size ≤ gm
  ne : p ≠ gr ∧ p ≠ gm ∧ gr ≠ gm
theorem LkW.below {w wr w' : World} {l : List Mac} {v vl : Value} {p gr gm b : Nat} {S M : List Bool} (h : LkW w wr l v vl p gr gm b S M) (hb : Below wr.heap.size wr w') : LkW w w' l v vl p gr gm b S M where
  hp := (hb.block _ (blk_lt h.hp)).trans h.hp
  hr := (hb.block _ (blk_lt h.hr)).trans h.hr
  hm := (hb.block _ (blk_lt h.hm)).trans h.hm
  bel := h.bel.trans (hb.mono h.bel.size)
  live := (h.live.below hb (Nat.le_refl _)).more (Nat.le_refl _) hb.size
  lt := h.lt
  ge := h.ge
  ne := h.ne
theorem LkW.setR {w wr : World} {l : List Mac} {v vl : Value} {p gr gm b : Nat} {S M : List Bool} (h : LkW w wr l v vl p gr gm b S M) (j : Nat) (x : Bool) : LkW w (wr.setCell ⟨gr, j, none⟩ (.bool x)) l v vl p gr gm b (S.set j x) M where
  hp := blk_other h.hp h.ne.1 _
  hr := by rw [block_set h.hr, boolsA_set]
  hm := blk_other h.hm (Ne.symm h.ne.2.2) _
  bel := h.bel.setCell (p := ⟨gr, j, none⟩) h.ge.2.1 _
  live := (h.live.setCell ⟨gr, j, none⟩ h.lt.2.1 _).more (Nat.le_refl _) (by simp [World.setCell])
  lt := h.lt
  ge := h.ge
  ne := h.ne
theorem LkW.setM {w wr : World} {l : List Mac} {v vl : Value} {p gr gm b : Nat} {S M : List Bool} (h : LkW w wr l v vl p gr gm b S M) (j : Nat) (x : Bool) : LkW w (wr.setCell ⟨gm, j, none⟩ (.bool x)) l v vl p gr gm b S (M.set j x) where
  hp := blk_other h.hp h.ne.2.1 _
  hr := blk_other h.hr h.ne.2.2 _
  hm := by rw [block_set h.hm, boolsA_set]
  bel := h.bel.setCell (p := ⟨gm, j, none⟩) h.ge.2.2 _
  live := (h.live.setCell ⟨gm, j, none⟩ h.lt.2.2 _).more (Nat.le_refl _) (by simp [World.setCell])
  lt := h.lt
  ge := h.ge
  ne := h.ne
/-- Its cells. -/
structure LkC (wr : World) (l : List Mac) (v vl : Value) (p gr gm : Nat) (S M : List Bool) : Prop where
  c0 : wr.cell? ⟨p, 0, none⟩ = some v
  c2 : wr.cell? ⟨p, 2, none⟩ = some (.slice (some ⟨gr, 0, none⟩) l.length l.length)
  c3 : wr.cell? ⟨p, 3, none⟩ = some (.slice (some ⟨gm, 0, none⟩) l.length l.length)
  r : ∀ k, k < S.length → wr.cell? ⟨gr, k, none⟩ = some (.bool (atB S k))
  m : ∀ k, k < M.length → wr.cell? ⟨gm, k, none⟩ = some (.bool (atB M k))
  fr : ∀ k, wr.frozen? ⟨gr, k, none⟩ = false
  fm : ∀ k, wr.frozen? ⟨gm, k, none⟩ = false
  lp : p < wr.heap.size
  lr : gr < wr.heap.size
  lm : gm < wr.heap.size
theorem LkW.cells {w wr : World} {l : List Mac} {v vl : Value} {p gr gm b : Nat} {S M : List Bool} (h : LkW w wr l v vl p gr gm b S M) : LkC wr l v vl p gr gm S M where
  c0 := by rw [blk_cell' h.hp]; rfl
  c2 := by rw [blk_cell' h.hp]; rfl
  c3 := by rw [blk_cell' h.hp]; rfl
  r := fun k hk => by rw [blk_cell' h.hr]; exact boolsA_get hk
  m := fun k hk => by rw [blk_cell' h.hm]; exact boolsA_get hk
  fr := fun k => by simp [World.frozen?, h.hr]
  fm := fun k => by simp [World.frozen?, h.hm]
  lp := blk_lt h.hp
  lr := blk_lt h.hr
  lm := blk_lt h.hm
/-- The window while ways are followed: blocks below B2 are as in W4, but for the row of what is reached. -/
structure LkQ (w W4 wr : World) (l : List Mac) (v vl : Value) (p gr gm : Nat) (S : List Bool) : Prop where
  hp : wr.heap[p]? = some (.cells #[v, vl, .slice (some ⟨gr, 0, none⟩) l.length l.length, .slice (some ⟨gm, 0, none⟩) l.length l.length] 185 (0, 0))
  hr : wr.heap[gr]? = some (.cells (boolsA S) 4 (0, 0))
  bel : Below w.heap.size w wr
  mid : ∀ k, k ≠ gr → k < W4.heap.size → wr.heap[k]? = W4.heap[k]?
  lt : p < W4.heap.size ∧ gr < W4.heap.size
  ge : w.heap.size ≤ gr
  ne : p ≠ gr
  big : w.heap.size ≤ W4.heap.size
  sz : W4.heap.size ≤ wr.heap.size
theorem LkQ.below {w W4 wr w' : World} {l : List Mac} {v vl : Value} {p gr gm : Nat} {S : List Bool} (h : LkQ w W4 wr l v vl p gr gm S) (hb : Below W4.heap.size wr w') : LkQ w W4 w' l v vl p gr gm S where
  hp := (hb.block _ h.lt.1).trans h.hp
  hr := (hb.block _ h.lt.2).trans h.hr
  bel := h.bel.trans (hb.mono h.big)
  mid := fun k h1 h2 => (hb.block _ h2).trans (h.mid k h1 h2)
  lt := h.lt
  ge := h.ge
  ne := h.ne
  big := h.big
  sz := Nat.le_trans h.sz hb.size
theorem LkQ.setR {w W4 wr : World} {l : List Mac} {v vl : Value} {p gr gm : Nat} {S : List Bool} (h : LkQ w W4 wr l v vl p gr gm S) (j : Nat) (x : Bool) : LkQ w W4 (wr.setCell ⟨gr, j, none⟩ (.bool x)) l v vl p gr gm (S.set j x) where
  hp := blk_other h.hp h.ne _
  hr := by rw [block_set h.hr, boolsA_set]
  bel := h.bel.setCell (p := ⟨gr, j, none⟩) h.ge _
  mid := fun k h1 h2 => (Below.heap_setCell _ _ _ _ h1).trans (h.mid k h1 h2)
  lt := h.lt
  ge := h.ge
  ne := h.ne
  big := h.big
  sz := by simpa [World.setCell] using h.sz
theorem own_prefix {w : World} {base : Nat} {e : TypeId} {g cap n : Nat} {T : List Int} {t : Int} (h : w.ownsRow base e 1 (.slice (some ⟨g, 0, none⟩) n cap) n ((T ++ [t]).flatMap intCells)) (hn : n = T.length + 1) : w.ownsRow base e 1 (.slice (some ⟨g, 0, none⟩) T.length cap) T.length (T.flatMap intCells) ∧ w.cell? ⟨g, T.length, none⟩ = some (.int .i64 t) := by
  have hl : (T.flatMap intCells).length = T.length := by rw [flat_length intCells 1 (fun _ => rfl), Nat.mul_one]
  constructor
  · have := own_setCells (vs := []) (o := 0) (m := T.length) h (by simp) (by omega) (T.flatMap intCells) (by
      rw [List.flatMap_append, List.take_zero, List.nil_append, List.nil_append, Nat.mul_one, List.length_nil, Nat.add_zero, List.drop_zero, List.take_append_of_le_length (by omega), List.take_of_length_le (by omega)])
    exact this
  · have h1 := h.cellAt T.length (by omega)
    rw [List.flatMap_append, List.getElem?_append_right (by omega), hl, Nat.sub_self] at h1
    exact h1
set_option maxRecDepth 100000 in
set_option maxHeartbeats 4000000 in
theorem look_calls (v : Value) (l : List Mac) (hok : MacsOk l) (w : World) (h : rpMac.SL w w.heap.size l v) (hS : Shapes w) (R : Ending → World → Prop)
    (hR : ∀ w' p vl vr vm, Below w.heap.size w w' → w.heap.size ≤ p → w'.heap[p]? = some (.cells #[v, vl, vr, vm] 185 (0, 0)) → rpInt.slice.SL w' w'.heap.size (liveL l) vl → rpBool.SL w' w'.heap.size (reachW l) vr → rpBool.SL w' w'.heap.size (markL l) vm →
      R (.returned (.pointer (some ⟨p, 0, none⟩))) w') :
    Calls Tryd.prog 109 #[v] w R := by
  have h0 := hS.1
  have hfew := hok.few
  have hpos := hok.some_
  obtain ⟨A, c, rfl, hmx, hcap, hs⟩ := h.cases_
  have HS := Lib.hid hS
  have HR := Lib.hid hR
  have Hs := Lib.hid hs
  have hmk := fun W => make_bools2 W l.length hfew
  clear hS hR hs h
  go_enter Tryd.func109, Tryd.ntmps109
  go_upto_region 1 with (fail)
  go_cut [3] (fun s3 wx => ∃ p gr gm, s3 = .pointer (some ⟨p, 0, none⟩) ∧ gr ≠ gm ∧ w.heap.size ≤ gr ∧ w.heap.size ≤ gm ∧ w.heap.size ≤ p ∧ Hid (wx.heap[p]? = some (.cells #[.slice A l.length c, .slice none 0 0, .slice (some ⟨gr, 0, none⟩) l.length l.length, .slice (some ⟨gm, 0, none⟩) l.length l.length] 185 (0, 0))) ∧ Hid (wx.heap[gr]? = some (.cells (boolsA (List.replicate l.length false)) 4 (0, 0))) ∧ Hid (wx.heap[gm]? = some (.cells (boolsA (List.replicate l.length false)) 4 (0, 0))) ∧ Hid (Below w.heap.size w wx))
  case first =>
    go_region_law (fail)
    all_goals
      go_wp2
      go_meet
    · exact ⟨_, w.heap.size, w.heap.size + 1, rfl, by omega, by omega, by omega, by omega, Lib.hid (heap_new (by simp)), Lib.hid (blk_alloc (blk_alloc (heap_new rfl) _) _), Lib.hid (blk_alloc (heap_new (by simp)) _), Lib.hid bl0⟩
    · exact ⟨_, w.heap.size + 1, w.heap.size, rfl, by omega, by omega, by omega, by omega, Lib.hid (heap_new (by simp)), Lib.hid (blk_alloc (heap_new (by simp)) _), Lib.hid (blk_alloc (blk_alloc (heap_new rfl) _) _), Lib.hid bl0⟩
  case rest =>
    obtain ⟨p, gr, gm, rfl, hne, hgr, hgm, hp, HP, HGr, HGm, HB⟩ := hcut
    go_wp2_with fail
    refine Live_calls _ l hok _ (Hs.out.up HB.out HB.out.size) (HS.out.up HB.out h0) _ ?_
    intro w2 vl hb2 hvl
    obtain ⟨A2, c2, rfl, _, _, hvl⟩ := hvl.cases_
    obtain ⟨nL, hnL⟩ : ∃ nL, (liveL l).length = nL := ⟨_, rfl⟩
    rw [hnL] at hvl ⊢
    clear hnL
    have hP2 := (hb2.block _ (blk_lt HP.out)).trans HP.out
    have hL0 : LkW w (w2.setCell ⟨p, 1, none⟩ (.slice A2 nL c2)) l (.slice A l.length c) (.slice A2 nL c2) p gr gm wc.heap.size (List.replicate l.length false) (List.replicate l.length false) := by
      have t1 := blk_lt HP.out
      have t2 := blk_lt HGr.out
      have t3 := blk_lt HGm.out
      have n1 : p ≠ gr := fun e => by have := HP.out; rw [e, HGr.out] at this; injection this with this; injection this with _ h2; revert h2; decide
      have n2 : p ≠ gm := fun e => by have := HP.out; rw [e, HGm.out] at this; injection this with this; injection this with _ h2; revert h2; decide
      refine ⟨?_, blk_other ((hb2.block _ t2).trans HGr.out) (Ne.symm n1) _, blk_other ((hb2.block _ t3).trans HGm.out) (Ne.symm n2) _, (HB.out.trans (hb2.mono HB.out.size)).setCell (p := ⟨p, 1, none⟩) hp _, (hvl.setCell ⟨p, 1, none⟩ t1 _).more (Nat.le_refl _) (by simp [World.setCell]), ⟨t1, t2, t3⟩, ⟨hp, hgr, hgm⟩, n1, n2, hne⟩
      rw [block_set hP2]
      rfl
    have q1 : w2.cell? ⟨p, 1, none⟩ = some (.slice none 0 0) := by rw [blk_cell' hP2]; rfl
    have f1 : w2.frozen? ⟨p, 1, none⟩ = false := by simp [World.frozen?, hP2]
    have hlp : p < w2.heap.size := blk_lt hP2
    have HL0 := Lib.hid hL0
    obtain ⟨W3, hW3⟩ : ∃ W3, W3 = w2.setCell ⟨p, 1, none⟩ (.slice A2 nL c2) := ⟨_, rfl⟩
    rw [← hW3] at HL0
    have HW3 := Lib.hid hW3.symm
    clear hb2 hvl hP2 hL0 HP HGr HGm HB hW3
    go_upto_region 3 with fail
    rw [HW3.out]
    clear q1 f1 hlp HW3
    go_wp2_with fail
    go_loopg [27] l.length (fun gh s27 wr => ∃ k : Nat, k ≤ l.length ∧ gh = l.length - k ∧ s27 = .int .i64 (k : Int) ∧ Hid (LkW w wr l (.slice A l.length c) (.slice A2 nL c2) p gr gm wc.heap.size (List.replicate l.length false) (markTo l k)))
    case atStart => exact ⟨0, Nat.zero_le _, rfl, rfl, Lib.hid (by rw [markTo_first]; exact HL0.out)⟩
    case round =>
      obtain ⟨k, hk, rfl, rfl, HL⟩ := hrel
      by_cases hlt : k < l.length
      · have C := HL.out.cells
        obtain ⟨b6, o6, m, rfl, hbm, e, c0, c1, c2', c3, c4⟩ := Hs.out.mac_at hlt
        have em : atL l k = m := by
          rw [atL_get hlt]
          rw [List.getElem?_eq_getElem hlt] at e
          exact Option.some.inj e
        have hst := markTo_step hok hlt
        have hm := hok.at_ hlt
        rw [em] at hst hm
        have hbel := HL.out.bel
        have d0 := (hbel.cell hbm).trans c0
        have d1 := (hbel.cell (p := ⟨b6, o6 + k * 5 + 1, none⟩) hbm).trans c1
        have d2 := (hbel.cell (p := ⟨b6, o6 + k * 5 + 2, none⟩) hbm).trans c2'
        have d3 := (hbel.cell (p := ⟨b6, o6 + k * 5 + 3, none⟩) hbm).trans c3
        have d4 := (hbel.cell (p := ⟨b6, o6 + k * 5 + 4, none⟩) hbm).trans c4
        have i0 : (0 : Int) ≤ (k : Int) := by omega
        have i1 : (k : Int) < (l.length : Int) := by omega
        have hbr : b6 < wr.heap.size := Nat.lt_of_lt_of_le hbm hbel.size
        have Hm := Lib.hid hm
        have Hst := Lib.hid hst
        clear c0 c1 c2' c3 c4 e em hbel C hst hm
        go_wp2_with fail
        refine jumps_calls m _ _ (fun w5 hb5 => ?_)
        have HL5 := Lib.hid (HL.out.below ((by exact bl0 : Below wr.heap.size wr _).trans (hb5.mono (by simp))))
        obtain ⟨hc5, hf5⟩ := bcell hb5
        have p4 : w5.cell? ⟨wr.heap.size, 4, none⟩ = some (.int .i64 m.n) := by rw [hc5 _ _ (by simp)]; simp
        have hz5 : wr.heap.size < w5.heap.size := by have := hb5.size; simp at this; omega
        clear hb5 hc5 hf5 d0 d1 d2 d3 d4
        cases hj : jumpsM m
        · have Hst2 := Lib.hid (show markTo l (k + 1) = markTo l k by rw [Hst.out, hj]; rfl)
          clear hj Hst
          go_wp2
          go_roundg (l.length - (k + 1))
          case measure => omega
          case rel => exact ⟨k + 1, hlt, rfl, by go_num, Lib.hid (by rw [Hst2.out]; exact HL5.out)⟩
        · have Hst2 := Lib.hid (show markTo l (k + 1) = (markTo l k).set m.n.toNat true by rw [Hst.out, hj]; rfl)
          have hop : 37 ≤ m.op ∧ m.op ≤ 43 := by unfold jumpsM at hj; simpa using hj
          have hjn := Hm.out.jump hop.1 hop.2
          obtain ⟨y, hy⟩ : ∃ y : Nat, m.n = (y : Int) := ⟨m.n.toNat, by omega⟩
          rw [hy] at p4 hjn Hst2
          rw [Int.toNat_natCast] at Hst2
          have C := HL5.out.cells
          have c3 := C.c3
          have hym : y < (markTo l k).length := by rw [markTo_len]; omega
          have cm := C.m y hym
          have fm := C.fm y
          have lm := C.lm
          have lp := C.lp
          have y0 : (0 : Int) ≤ (y : Int) := by omega
          have y1 : (y : Int) < (l.length : Int) := by omega
          clear C hop hjn hj Hst hy hym
          go_wp2_with fail
          go_region_law (fail)
          all_goals
            go_wp2
            go_roundg (l.length - (k + 1))
            case measure => omega
            case rel => exact ⟨k + 1, hlt, rfl, by go_num, Lib.hid (by rw [Hst2.out]; exact (HL5.out.setM y true).below (Below.refl _ _).drew)⟩
      · obtain rfl : k = l.length := by omega
        rw [markTo_end] at HL
        have hQ0 : LkQ w wr wr l (.slice A l.length c) (.slice A2 nL c2) p gr gm (List.replicate l.length false) := ⟨HL.out.hp, HL.out.hr, HL.out.bel, fun _ _ _ => rfl, ⟨blk_lt HL.out.hp, blk_lt HL.out.hr⟩, HL.out.ge.2.1, HL.out.ne.1, HL.out.bel.size, Nat.le_refl _⟩
        have HQ0 := Lib.hid hQ0
        obtain ⟨i0, hi0, hz0, hz1, hz2⟩ := info_parts info_int3
        clear hQ0
        generalize wr = W4 at *
        go_wp2_with fail
        go_loopg [6] (3 * leftR (List.replicate l.length false) + 1) (fun gh s6 wr => ∃ (S : List Bool) (T : List Int), gh = 3 * leftR S + T.length ∧ 3 * leftR S + T.length ≤ 15001 ∧ Hid (GoodR l S T) ∧ wr.ownsRow W4.heap.size 3 1 s6 T.length (T.flatMap intCells) ∧ Hid (LkQ w W4 wr l (.slice A l.length c) (.slice A2 nL c2) p gr gm S))
        case atStart => exact ⟨_, [0], rfl, by have := List.countP_le_length (p := fun b => !b) (l := List.replicate l.length false); rw [List.length_replicate] at this; simp only [leftR, List.length_singleton]; omega, Lib.hid (GoodR.begin hok), ⟨rfl, .inr ⟨W4.heap.size, 1, #[.int .i64 0], rfl, Nat.le_refl _, heap_alloc_new _ _, Nat.le_refl _, by decide, rfl, rfl⟩⟩, Lib.hid (HQ0.out.below (by exact bl0))⟩
        case round =>
          obtain ⟨S, T, rfl, hfewT, HG, hown, HQ⟩ := hrel
          rcases List.eq_nil_or_concat T with rfl | ⟨T', t, rfl⟩
          · obtain ⟨A6, c6, rfl⟩ := own_slice hown
            have hS := HG.out.done hok
            have hlen : S.length = l.length := HG.out.len
            have hlv : rpInt.slice.SL wr wr.heap.size (liveL l) (.slice A2 nL c2) := ((HL.out.live.keep fun k h1 h2 => HQ.out.mid k (by have := HL.out.lt.2.1; omega) h2).more (Nat.le_refl _) HQ.out.sz).SL
            have hrv : rpBool.SL wr wr.heap.size (reachW l) (.slice (some ⟨gr, 0, none⟩) l.length l.length) := by
              have := bools_blk HQ.out.hr (Nat.le_refl _) (by rw [hlen]; unfold maxLen; omega)
              rwa [hlen, hS] at this
            have hmv : rpBool.SL wr wr.heap.size (markL l) (.slice (some ⟨gm, 0, none⟩) l.length l.length) := by
              have hlm : (markL l).length = l.length := by simp [markL]
              have := bools_blk (((HQ.out.mid gm (Ne.symm HL.out.ne.2.2) (blk_lt HL.out.hm))).trans HL.out.hm) (Nat.le_refl _) (by rw [hlm]; unfold maxLen; omega)
              rwa [hlm] at this
            have H1 := Lib.hid (HR.out wr p _ _ _ HQ.out.bel hp HQ.out.hp hlv hrv hmv)
            clear hlv hrv hmv hS hlen hown
            go_wp2
            exact H1.out
          · rw [List.concat_eq_append] at *
            have hTl : (T' ++ [t]).length = T'.length + 1 := by simp
            rw [hTl] at hown hfewT
            obtain ⟨g, cap, rfl, hg1, hg2, hcap1, hcap2⟩ := own_some hown (by omega)
            obtain ⟨hown', ht⟩ := own_prefix hown rfl
            have hst := HG.out.stack t (by simp)
            have hgl := HG.out.len
            obtain ⟨y, rfl⟩ : ∃ y : Nat, t = (y : Int) := ⟨t.toNat, by omega⟩
            have hyl : y < l.length := by omega
            have hT : T'.length ≤ 9223372036854775807 := by omega
            have y0 : (0 : Int) ≤ (y : Int) := by omega
            have y1 : (y : Int) < (l.length : Int) := by omega
            have y2 : decide (l.length ≤ y) = false := by simp; omega
            have z0 : (0 : Int) ≤ (T'.length : Int) := by omega
            have q0 : wr.cell? ⟨p, 0, none⟩ = some (.slice A l.length c) := by rw [blk_cell' HQ.out.hp]; rfl
            have q2 : wr.cell? ⟨p, 2, none⟩ = some (.slice (some ⟨gr, 0, none⟩) l.length l.length) := by rw [blk_cell' HQ.out.hp]; rfl
            have q3 : wr.cell? ⟨gr, y, none⟩ = some (.bool (atB S y)) := by rw [blk_cell' HQ.out.hr]; exact boolsA_get (by omega)
            have f3 : wr.frozen? ⟨gr, y, none⟩ = false := by simp [World.frozen?, HQ.out.hr]
            have l1 : p < wr.heap.size := blk_lt HQ.out.hp
            have l2 : gr < wr.heap.size := blk_lt HQ.out.hr
            generalize hn : T'.length = n at *
            have Hn := Lib.hid hn
            have Ho := Lib.hid hown'
            have HTl := Lib.hid hTl
            clear hown' hown hst hgl hn hTl
            cases hs : atB S y
            · rw [hs] at q3
              have hnew := Lib.hid (HG.out.new hok)
              have hrs := Lib.hid (leftR_set (S := S) (i := y) (by rw [HG.out.len]; exact hyl) hs)
              go_wp2_with fail
              have HQs := Lib.hid (HQ.out.setR y true)
              have Hos := Lib.hid (own_setCell_other (p := ⟨gr, y, none⟩) Ho.out (by intro e; have e' : g = gr := Option.some.inj e; have := HQ.out.lt.2; omega) (.bool true))
              refine Next_calls _ l y hyl hok _ (Hs.out.up HQs.out.bel HQs.out.bel.size) (HS.out.up HQs.out.bel h0) _ ?_
              intro w5 v5 hb5 hks hnil
              have hkl := nextL_len l y
              have HQ5 := Lib.hid (HQs.out.below (hb5.mono HQs.out.sz))
              have Ho5 := Lib.hid (own_below Hos.out hb5)
              rw [Int.toNat_natCast] at hnew
              have hsz5 : W4.heap.size ≤ w5.heap.size := HQ5.out.sz
              clear hb5 q0 q2 q3 f3 hs
              generalize nextL l y = ks at *
              by_cases hk0 : ks = []
              · subst hk0
                obtain rfl := hnil rfl
                rw [List.append_nil] at hnew
                clear hks hnil
                go_wp2_with (at_builtin; refine wpList_append_own_none rfl _ _ 51 rfl W4.heap.size 3 i0 1 Tryd.underlying51 hi0 (.slice (some ⟨g, 0, none⟩) n cap) n (T'.flatMap intCells) rfl Ho5.out rfl ?_)
                go_wp2
                go_roundg (3 * leftR (S.set y true) + n)
                case measure => rw [HTl.out]; have := hrs.out; omega
                case rel => exact ⟨S.set y true, T', by rw [Hn.out], by rw [Hn.out]; have := hrs.out; omega, hnew, by rw [Hn.out]; exact Ho5.out, HQ5⟩
              · obtain ⟨A5, c5, rfl, _, hc5, hks⟩ := hks.cases_
                have hkpos : 0 < ks.length := List.length_pos_iff.2 hk0
                have hA5 : ∃ a, A5 = some a := by
                  obtain ⟨b, off, _, hA, _⟩ := hks.at_ (List.getElem?_eq_getElem hkpos)
                  exact ⟨_, hA⟩
                obtain ⟨a5, rfl⟩ := hA5
                have hnews : ∀ j u, (ks.flatMap intCells)[j]? = some u → w5.cell? (a5.add j) = some u := hks.news (fun _ _ _ _ h => h) (fun _ => rfl) (by decide)
                have Hnews := Lib.hid hnews
                have hfl := Lib.hid (flat_length intCells 1 (fun _ => rfl) ks)
                obtain ⟨N5, hN5⟩ : ∃ N5, ks.length = N5 := ⟨_, rfl⟩
                have HN5 := Lib.hid hN5
                rw [hN5] at hkpos hkl hfl ⊢
                clear hks hnil hnews hk0 hN5 hc5
                go_wp2_with (at_builtin; refine wpList_append_own _ rfl _ _ 51 rfl W4.heap.size 3 i0 _ 1 8 Tryd.underlying51 hi0 hz0 hz1 hz2 rfl (by decide) (.slice (some ⟨g, 0, none⟩) n cap) n (T'.flatMap intCells) rfl Ho5.out a5 N5 c5 (ks.flatMap intCells) rfl hfl.out Hnews.out (one_int ks) (by unfold maxLen; omega) (by omega) (by omega) ?_)
                intro v6 w6 hown6 hg6 _
                have HQ6 := Lib.hid (HQ5.out.below (grown_below (g := g) (by simpa [Value.ownBlock] using hg6) hg1 hsz5))
                have Ho6 := Lib.hid hown6
                clear hown6 hg6
                go_wp2
                go_roundg (3 * leftR (S.set y true) + (n + N5))
                case measure => rw [HTl.out]; have := hrs.out; omega
                case rel => exact ⟨S.set y true, T' ++ ks, by rw [List.length_append, Hn.out, HN5.out], by rw [List.length_append, Hn.out, HN5.out]; have := hrs.out; omega, hnew, by rw [List.length_append, Hn.out, HN5.out, List.flatMap_append]; exact Ho6.out, HQ6⟩
            · rw [hs] at q3
              have hhad := Lib.hid (HG.out.had (by rw [Int.toNat_natCast]; exact hs))
              clear hs
              go_wp2
              go_roundg (3 * leftR S + n)
              case measure => rw [HTl.out]; omega
              case rel => exact ⟨S, T', by rw [Hn.out], by rw [Hn.out]; omega, hhad, by rw [Hn.out]; exact Ho.out, HQ⟩
end Go.Proofs.YtkcmijnaheapdaaDoor
