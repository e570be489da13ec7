/- Package mac: where it may go on; live registers. -/
import Derived.Test.YtkcmijnaheapdaaDoorBase
import Derived.Test.YtkcmijnaheapdaaDoorRows
import Derived.IntWalk
import Derived.Outline
import Derived.Deep.LoopGhost
import Derived.Test.YtkcmijnaheapdaaDoorPk1
import Derived.Test.YtkcmijnaheapdaaDoorPkP
import Derived.Test.YtkcmijnaheapdaaDoorCopyA
import Derived.Laws.MakeOwn
import Derived.Deep.RegionHeld3
namespace Go.Proofs.YtkcmijnaheapdaaDoor
open Go.RowKit
set_option linter.unusedSimpArgs false
set_option linter.unusedVariables false

/-- A fresh row of ints, whole. -/
theorem ints_blk {w : World} {g B : Nat} {xs : List Int} {T : TypeId} {fr : Nat × Nat} (h : w.heap[g]? = some (.cells (xs.map (Value.int .i64)).toArray T fr)) (hB : w.heap.size ≤ B) (hm : xs.length ≤ maxLen) :
    rpInt.SL w B xs (.slice (some ⟨g, 0, none⟩) xs.length xs.length) := by
  refine ⟨_, _, rfl, hm, Nat.le_refl _, fun _ => ⟨g, 0, rfl, by have := blk_lt h; omega, fun k x hk => ⟨_, rfl, fun j u hj => ?_⟩⟩⟩
  cases j with
  | zero =>
    simp at hj
    subst hj
    have : w.cell? ⟨g, k, none⟩ = some (.int .i64 x) := by simp [World.cell?, h, hk]
    simpa [rpInt] using this
  | succ j => simp at hj
theorem heap_new {w : World} {o : Obj} {n : Nat} (hn : w.heap.size = n) : (w.alloc o).heap[n]? = some o := by subst hn; exact heap_alloc_new _ _
theorem shape_jump {m : Mac} {len : Nat} (hm : MacOk m len) : ((shapeOf m.op).n == 2) = jumpsM m := by
  have := shape_n m.op hm.op1 hm.op47
  unfold jumpsM
  rw [Bool.eq_iff_iff, beq_iff_eq, this]
  simp
set_option maxHeartbeats 1000000 in
theorem Next_calls (v : Value) (l : List Mac) (i : Nat) (hi : i < l.length) (hok : MacsOk l) (w : World) (h : rpMac.SL w w.heap.size l v) (hS : Shapes w) (R : Ending → World → Prop)
    (hR : ∀ w' v', Below w.heap.size w w' → rpInt.SL w' w'.heap.size (nextL l i) v' → (nextL l i = [] → v' = .slice none 0 0) → R (.returned v') w') :
    Calls Tryd.prog 144 #[v, .int .i64 (i : Int)] w R := by
  have h0 := hS.1
  have hm := hok.at_ hi
  have hfew := hok.few
  obtain ⟨A, c, rfl, hmx, hcap, hs⟩ := h.cases_
  obtain ⟨b, off, m, rfl, hb, e, c0, c1, c2, c3, c4⟩ := hs.mac_at hi
  have em : atL l i = m := by
    rw [atL_get hi]
    rw [List.getElem?_eq_getElem hi] at e
    exact Option.some.inj e
  unfold nextL at hR
  rw [em] at hm hR
  have hsj := Lib.hid (shape_jump hm)
  have HS := Lib.hid hS
  have HR := Lib.hid hR
  have i0 : (0 : Int) ≤ (i : Int) := by omega
  have i1 : (i : Int) < (l.length : Int) := by omega
  have i2 : (i : Int) + 1 ≤ 9223372036854775807 := by omega
  clear hS hR hs h e em hok
  go_enter Tryd.func144, Tryd.ntmps144
  go_wp2_with fail
  refine Of_calls _ _ (HS.out.up (bl0) h0) _ ?_
  intro w1 hb1
  obtain ⟨hc1, hf1⟩ := bcell hb1
  have hz : w.heap.size < w1.heap.size := by have := hb1.size; simp at this; omega
  have p0 : w1.cell? ⟨w.heap.size, 0, none⟩ = some (.int .i64 m.op) := by rw [hc1 _ _ (by simp)]; simp
  have p4 : w1.cell? ⟨w.heap.size, 4, none⟩ = some (.int .i64 m.n) := by rw [hc1 _ _ (by simp)]; simp
  generalize shapeOf m.op = s at *
  obtain ⟨sd, sa, sb, sn⟩ := s
  unfold Shape.val
  by_cases h45 : m.op = 45
  · have HR2 := HR.out
    simp only [if_pos h45] at HR2
    have HR3 := Lib.hid HR2
    have i45 : (m.op == 45) = true := by simpa using h45
    clear HR2 h45
    go_wp2
    exact HR3.out _ _ bl0 (Rp.SL.nil _ _ _) (fun _ => rfl)
  have HR2 := HR.out
  simp only [if_neg h45] at HR2
  have i45 : (m.op == 45) = false := by simpa using h45
  by_cases h37 : m.op = 37
  · simp only [if_pos h37] at HR2
    have HR3 := Lib.hid HR2
    have i37 : (m.op == 37) = true := by simpa using h37
    clear HR2 h45 h37 HR
    go_wp2
    exact HR3.out _ _ bl0 (ints_blk (xs := [m.n]) (heap_new (by simp)) (Nat.le_refl _) (by unfold maxLen; simp)) (fun h => by cases h)
  simp only [if_neg h37] at HR2
  have i37 : (m.op == 37) = false := by simpa using h37
  cases hj : jumpsM m
  · simp only [hj, Bool.false_eq_true, if_false] at HR2
    have HR3 := Lib.hid HR2
    have hs2 := hsj.out
    rw [hj] at hs2
    simp only at hs2
    clear HR2 h45 h37 HR hj hsj
    go_wp2
    exact HR3.out _ _ bl0 (ints_blk (xs := [(i : Int) + 1]) (heap_new (by simp)) (Nat.le_refl _) (by unfold maxLen; simp)) (fun h => by cases h)
  · simp only [hj, if_true] at HR2
    have HR3 := Lib.hid HR2
    have hs2 := hsj.out
    rw [hj] at hs2
    simp only at hs2
    clear HR2 h45 h37 HR hj hsj
    go_wp2
    exact HR3.out _ _ bl0 (ints_blk (xs := [(i : Int) + 1, m.n]) (heap_new (by simp)) (Nat.le_refl _) (by unfold maxLen; simp)) (fun h => by cases h)

/-- A row of sets, whole. -/
def setsA (V : List (BitVec 64)) : Array Value := (V.map fun x => Value.int .u64 (bvI x)).toArray
theorem setsA_get {V : List (BitVec 64)} {k : Nat} (h : k < V.length) : (setsA V)[k]? = some (.int .u64 (bvI (atV V k))) := by
  unfold setsA atV
  rw [List.getElem?_toArray, List.getElem?_map, List.getElem?_eq_getElem h, List.getD_eq_getElem?_getD, List.getElem?_eq_getElem h]
  rfl
theorem setsA_set {V : List (BitVec 64)} {k : Nat} (x : BitVec 64) : (setsA V).setIfInBounds k (.int .u64 (bvI x)) = setsA (V.set k x) := by
  unfold setsA
  rw [List.setIfInBounds_toArray, List.map_set]
theorem setsA_first (n : Nat) : setsA (List.replicate n 0#64) = Array.replicate n (.int .u64 0) := by
  unfold setsA
  rw [List.map_replicate]
  apply Array.ext'
  simp
  exact .inr rfl
theorem info_set : (Tryd.prog.info? 222).map (fun i => (i.zero, i.size, i.bytes)) = some (some (.int .u64 0), 1, 8) := by kernel_rfl
theorem make_sets (W : World) (n : Nat) (hn : n ≤ 5000) : (Instr.makeSlice 220 (.int .i64 (n : Int)) (.int .i64 (n : Int))).run Tryd.prog W = .ok (.slice (some ⟨W.heap.size, 0, none⟩) n n) (W.alloc (.cells (setsA (List.replicate n 0#64)) 222)) := by
  obtain ⟨iB, hi, z0, z1, z2⟩ := info_parts info_set
  have h := run_make (P := Tryd.prog) W 220 222 iB _ Tryd.underlying220 hi z0 .i64 .i64 (n : Int) (n : Int) (by omega) (Int.le_refl _) (by rw [z2]; omega) (by omega)
  rw [z1] at h
  simp only [Int.toNat_natCast, Nat.mul_one] at h
  have e : madeCells (Value.int .u64 0).cells n = setsA (List.replicate n 0#64) := by
    rw [setsA_first]
    unfold madeCells
    apply Array.ext
    · simp
    · intro i h1 h2
      simp [Value.cells, Nat.mod_one]
  rw [e] at h
  exact h
theorem blk_cell' {w : World} {b j : Nat} {A : Array Value} {T : TypeId} {fr : Nat × Nat} (h : w.heap[b]? = some (.cells A T fr)) : w.cell? ⟨b, j, none⟩ = A[j]? := by simp [World.cell?, h]
theorem take_snoc' {α : Type} {l : List α} {k : Nat} (h : k < l.length) : l.take (k + 1) = l.take k ++ [l[k]] := by
  rw [List.take_add_one, List.getElem?_eq_getElem h]
  rfl
def closedV (l : List Mac) (V : List (BitVec 64)) : Prop := ∀ i, i < l.length → nextV l (fun i => readsV (atL l i)) (fun i => writesV (atL l i)) V i = atV V i
theorem rwV {l : List Mac} (h : MacsOk l) : RW l (fun i => readsV (atL l i)) (fun i => writesV (atL l i)) :=
  ⟨fun i hi r hr => readsV_at (h.at_ hi) hr, fun i hi r hr => writesV_at (h.at_ hi) hr, fun i hi r hr => readsV_lt (h.at_ hi) hr⟩
/-- The relation of the round from the last instruction on. -/
def midV (l : List Mac) (V V' : List (BitVec 64)) (b : Bool) (ii : Int) : Prop :=
  GoodV l (fun i => readsV (atL l i)) (fun i => writesV (atL l i)) V' ∧ (b = false → V' = V ∧ ∀ k : Nat, ii < (k : Int) → k < l.length → nextV l (fun i => readsV (atL l i)) (fun i => writesV (atL l i)) V' k = atV V' k) ∧ (b = true → restV V' < restV V)
theorem midV.same {l : List Mac} {V V' : List (BitVec 64)} {b : Bool} {k : Nat} (h : midV l V V' b k) (he : nextV l (fun i => readsV (atL l i)) (fun i => writesV (atL l i)) V' k = atV V' k) : midV l V V' b ((k : Int) - 1) := by
  refine ⟨h.1, fun hb => ⟨(h.2.1 hb).1, fun j h1 h2 => ?_⟩, h.2.2⟩
  by_cases e : j = k
  · subst e; exact he
  · exact (h.2.1 hb).2 j (by omega) h2
theorem midV.more {l : List Mac} (hok : MacsOk l) {V V' : List (BitVec 64)} {b : Bool} {k : Nat} (hk : k < l.length) (h : midV l V V' b k) (he : nextV l (fun i => readsV (atL l i)) (fun i => writesV (atL l i)) V' k ≠ atV V' k) :
    midV l V (V'.set k (nextV l (fun i => readsV (atL l i)) (fun i => writesV (atL l i)) V' k)) true ((k : Int) - 1) := by
  refine ⟨h.1.step hok (rwV hok) hk, (fun hb => by cases hb), fun _ => ?_⟩
  have h1 := h.1.less hk he
  cases b
  · rw [(h.2.1 rfl).1] at h1 ⊢; exact h1
  · have := h.2.2 rfl; omega
set_option maxRecDepth 100000 in
set_option maxHeartbeats 2000000 in
theorem live_calls (v : Value) (l : List Mac) (hok : MacsOk l) (w : World) (h : rpMac.SL w w.heap.size l v) (hS : Shapes w) (R : Ending → World → Prop)
    (hR : ∀ w' g V, Below w.heap.size w w' → w.heap.size ≤ g → w'.heap[g]? = some (.cells (setsA V) 222 (0, 0)) → V.length = l.length → (∀ i r, i < l.length → r < 16 → (atV V i).getLsbD r = liveB l i r) → R (.returned (.slice (some ⟨g, 0, none⟩) l.length l.length)) w') :
    Calls Tryd.prog 154 #[v] w R := by
  have h0 := hS.1
  have hfew := hok.few
  have hpos := hok.some_
  obtain ⟨A, c, rfl, hmx, hcap, hs⟩ := h.cases_
  have HS := Lib.hid hS
  have HR := Lib.hid hR
  have Hs := Lib.hid hs
  have hmk := make_sets w l.length hfew
  obtain ⟨W0, hW0⟩ : ∃ W0, W0 = w.alloc (.cells (setsA (List.replicate l.length 0#64)) 222) := ⟨_, rfl⟩
  rw [← hW0] at hmk
  have hb0 : Below w.heap.size w W0 := by rw [hW0]; exact bl0
  have hblk0 : W0.heap[w.heap.size]? = some (.cells (setsA (List.replicate l.length 0#64)) 222 (0, 0)) := by rw [hW0]; exact heap_alloc_new _ _
  have HW0 := Lib.hid hW0
  clear hS hR hs h hW0
  go_enter Tryd.func154, Tryd.ntmps154
  go_wp2
  go_loopg [4] (restV (List.replicate l.length 0#64) + 1) (fun g chg wr => ∃ (V : List (BitVec 64)) (b : Bool), chg = .bool b ∧ g = restV V + b.toNat ∧ GoodV l (fun i => readsV (atL l i)) (fun i => writesV (atL l i)) V ∧ (b = false → closedV l V) ∧ Below w.heap.size w wr ∧ wr.heap[w.heap.size]? = some (.cells (setsA V) 222 (0, 0)))
  case atStart => exact ⟨_, true, rfl, rfl, GoodV.first, fun h => (by cases h), hb0, hblk0⟩
  case round =>
    obtain ⟨V, b, rfl, rfl, hgood, hcl, hbel, hblk⟩ := hrel
    have Hb := Lib.hid hbel
    have Hblk := Lib.hid hblk
    have Hgood := Lib.hid hgood
    have Hcl := Lib.hid hcl
    clear hb0 hblk0 hmk hbel hblk hgood hcl
    cases b
    · have H1 := Lib.hid (HR.out _ _ _ Hb.out (Nat.le_refl _) Hblk.out Hgood.out.len (fun i r hi hr => Hgood.out.done hok (rwV hok) (Hcl.out rfl) hi hr))
      go_wp2
      exact H1.out
    · clear Hcl
      go_wp2
      go_loopg [4, 5] l.length (fun g chg i wx => ∃ (V' : List (BitVec 64)) (b : Bool) (ii : Int), chg = .bool b ∧ i = .int .i64 ii ∧ -1 ≤ ii ∧ ii < (l.length : Int) ∧ g = (ii + 1).toNat ∧ Hid (midV l V V' b ii) ∧ Below w.heap.size w wx ∧ wx.heap[w.heap.size]? = some (.cells (setsA V') 222 (0, 0)))
      case atStart => exact ⟨V, false, _, rfl, rfl, by omega, by omega, by omega, Lib.hid ⟨Hgood.out, fun _ => ⟨rfl, fun k h1 h2 => by omega⟩, fun h => by cases h⟩, Hb.out, Hblk.out⟩
      case round =>
        obtain ⟨V', b, ii, rfl, rfl, h1, h2, rfl, hmid, hbel, hblk⟩ := hrel
        have Hb2 := Lib.hid hbel
        have Hblk2 := Lib.hid hblk
        have hz2 := hbel.size
        clear hbel hblk
        by_cases hii : 0 ≤ ii
        · obtain ⟨k, rfl⟩ : ∃ k : Nat, ii = (k : Int) := ⟨ii.toNat, by omega⟩
          have hk : k < l.length := by omega
          go_wp2_with fail
          refine Next_calls _ l k hk hok _ (Hs.out.up Hb2.out hz2) (HS.out.up Hb2.out h0) _ ?_
          intro w5 v5 hb5 hks _
          have hlt := nextL_lt hok hk
          have hkl := nextL_len l k
          obtain ⟨A5, c5, rfl, hmx5, hc5, hks⟩ := hks.cases_
          have HX : Hid (nextV l (fun i => readsV (atL l i)) (fun i => writesV (atL l i)) V' k = stepV (readsV (atL l k)) (writesV (atL l k)) (orTo V' (nextL l k))) := Lib.hid rfl
          generalize hX : nextV l (fun i => readsV (atL l i)) (fun i => writesV (atL l i)) V' k = X at HX
          have HXe := Lib.hid hX
          clear hX
          generalize nextL l k = ks at *
          have Hlt := Lib.hid hlt
          have Hks := Lib.hid hks
          have Hb5 := Lib.hid (Hb2.out.trans (hb5.mono hz2))
          have Hblk5 := Lib.hid ((hb5.block _ (blk_lt Hblk2.out)).trans Hblk2.out)
          have hz5 := Hb5.out.size
          clear hlt hks hb5
          go_wp2
          go_loopg [6, 25] ks.length (fun g acc i wy => ∃ t : Nat, t ≤ ks.length ∧ g = ks.length - t ∧ i = .int .i64 t ∧ acc = .int .u64 (bvI (orTo V' (ks.take t))) ∧ wy = w5)
          case atStart => exact ⟨0, Nat.zero_le _, rfl, rfl, rfl, rfl⟩
          case round =>
            obtain ⟨t, ht, rfl, rfl, rfl, rfl⟩ := hrel
            by_cases htl : t < ks.length
            · obtain ⟨b6, o6, rfl, hb6, q6⟩ := Hks.out.int_at htl
              have hx0 := Hlt.out _ (List.getElem_mem htl)
              have hgd : ks.getD t 0 = ks[t] := by rw [List.getD_eq_getElem?_getD, List.getElem?_eq_getElem htl]; rfl
              rw [hgd] at q6
              have Hst := Lib.hid (orTo_snoc V' (ks.take t) ks[t])
              rw [← take_snoc' htl] at Hst
              obtain ⟨y, hy⟩ : ∃ y : Nat, ks[t] = (y : Int) := ⟨ks[t].toNat, by omega⟩
              rw [hy] at hx0 q6 Hst
              have hyl : y < V'.length := by rw [(show Hid (midV l V V' b k) from hmid).out.1.len]; omega
              have q7 : wr.cell? ⟨w.heap.size, y, none⟩ = some (.int .u64 (bvI (atV V' y))) := by rw [blk_cell' Hblk5.out]; exact setsA_get hyl
              have Hor := Lib.hid (bits_or (orTo V' (ks.take t)) (atV V' y))
              have i6 : (0 : Int) ≤ (y : Int) := by omega
              have i7 : (y : Int) < (l.length : Int) := by omega
              have i8 : (t : Int) < (ks.length : Int) := by omega
              rw [Int.toNat_natCast] at Hst
              clear hy hgd hx0 hyl
              go_wp2
              go_roundg (ks.length - (t + 1))
              case measure => omega
              case rel => exact ⟨t + 1, by omega, rfl, by go_num, by rw [Hor.out, Hst.out], rfl⟩
            · obtain rfl : t = ks.length := by omega
              rw [List.take_length]
              obtain ⟨b6, o6, m, rfl, hbm, e, c0, c1, c2, c3, c4⟩ := Hs.out.mac_at hk
              have em : atL l k = m := by
                rw [atL_get hk]
                rw [List.getElem?_eq_getElem hk] at e
                exact Option.some.inj e
              rw [em] at HX
              have hm := hok.at_ hk
              rw [em] at hm
              have Hc : Hid (∀ w', Below wr.heap.size wr w' → w'.cell? ⟨b6, o6 + k * 5, none⟩ = some (.int .i64 m.op) ∧ w'.cell? ⟨b6, o6 + k * 5 + 1, none⟩ = some (.int .i64 m.dst) ∧ w'.cell? ⟨b6, o6 + k * 5 + 2, none⟩ = some (.int .i64 m.a) ∧ w'.cell? ⟨b6, o6 + k * 5 + 3, none⟩ = some (.int .i64 m.b) ∧ w'.cell? ⟨b6, o6 + k * 5 + 4, none⟩ = some (.int .i64 m.n) ∧ Hid (Below w.heap.size w w') ∧ Hid (Below wr.heap.size wr w')) := Lib.hid (fun w' hb => by
                have hb' := Hb5.out.trans (hb.mono hz5)
                exact ⟨(hb'.cell hbm).trans c0, (hb'.cell (p := ⟨b6, o6 + k * 5 + 1, none⟩) hbm).trans c1, (hb'.cell (p := ⟨b6, o6 + k * 5 + 2, none⟩) hbm).trans c2, (hb'.cell (p := ⟨b6, o6 + k * 5 + 3, none⟩) hbm).trans c3, (hb'.cell (p := ⟨b6, o6 + k * 5 + 4, none⟩) hbm).trans c4, Lib.hid hb', Lib.hid hb⟩)
              have i3 : (0 : Int) ≤ (k : Int) := by omega
              have i4 : (k : Int) < (l.length : Int) := by omega
              clear c0 c1 c2 c3 c4 e em
              generalize orTo V' ks = B at *
              go_wp2_with fail
              go_region_held3 (fun w' => w'.cell? ⟨b6, o6 + k * 5, none⟩ = some (.int .i64 m.op) ∧ w'.cell? ⟨b6, o6 + k * 5 + 1, none⟩ = some (.int .i64 m.dst) ∧ w'.cell? ⟨b6, o6 + k * 5 + 2, none⟩ = some (.int .i64 m.a) ∧ w'.cell? ⟨b6, o6 + k * 5 + 3, none⟩ = some (.int .i64 m.b) ∧ w'.cell? ⟨b6, o6 + k * 5 + 4, none⟩ = some (.int .i64 m.n) ∧ Hid (Below w.heap.size w w') ∧ Hid (Below wr.heap.size wr w')) (first | with_reducible exact Hc.out _ (Below.refl _ _).drew | with_reducible exact Hc.out _ (e7.out.trans (hb7.mono e7.out.size)) | go_keep) (first
                | (go_at_call 161; obtain ⟨_, _, _, _, _, e6, e7⟩ := ‹_ ∧ _ ∧ _ ∧ _ ∧ _ ∧ Hid (Below w.heap.size w _) ∧ Hid (Below wr.heap.size wr _)›; with_reducible refine reads_calls m hm _ (HS.out.up e6.out h0) _ (fun w7 hb7 => ?_))
                | (go_at_call 162; obtain ⟨_, _, _, _, _, e6, e7⟩ := ‹_ ∧ _ ∧ _ ∧ _ ∧ _ ∧ Hid (Below w.heap.size w _) ∧ Hid (Below wr.heap.size wr _)›; with_reducible refine writes_calls m hm _ (HS.out.up e6.out h0) _ (fun w7 hb7 => ?_)))
              obtain ⟨_, _, _, _, _, e8, e9⟩ := ‹_ ∧ _ ∧ _ ∧ _ ∧ _ ∧ Hid (Below w.heap.size w w7) ∧ Hid (Below wr.heap.size wr w7)›
              have hblk7 := (e9.out.block _ (blk_lt Hblk5.out)).trans Hblk5.out
              have hmid' := hmid.out
              have hkV : k < V'.length := by rw [hmid'.1.len]; omega
              have q8 : w7.cell? ⟨w.heap.size, k, none⟩ = some (.int .u64 (bvI (atV V' k))) := by rw [blk_cell' hblk7]; exact setsA_get hkV
              have f8 : w7.frozen? ⟨w.heap.size, k, none⟩ = false := by simp [World.frozen?, hblk7]
              have hz7 : w.heap.size < w7.heap.size := blk_lt hblk7
              rw [bits_andNot, bits_or]
              have HX2 := HX.out
              unfold stepV at HX2
              rw [← HX2]
              have Hblk7 := Lib.hid hblk7
              have Hmid := Lib.hid hmid'
              clear hblk7 hmid hmid' HX2 HX
              by_cases hne : X = atV V' k
              · have Hne := Lib.hid hne
                have hq : (bvI X == bvI (atV V' k)) = true := by rw [hne]; simp
                clear hne
                go_wp2
                go_roundg k
                case measure => omega
                case rel => exact ⟨V', b, (k : Int) - 1, rfl, rfl, by omega, by omega, by omega, Lib.hid (Hmid.out.same (HXe.out.trans Hne.out)), e8.out, Hblk7.out⟩
              · have Hne := Lib.hid hne
                have hq : (bvI X == bvI (atV V' k)) = false := by
                  rw [beq_eq_false_iff_ne]
                  exact fun e => hne (bvI_inj.1 e)
                clear hne
                go_wp2
                go_roundg k
                case measure => omega
                case rel => exact ⟨V'.set k X, true, (k : Int) - 1, rfl, rfl, by omega, by omega, by omega, Lib.hid (by
                    have := Hmid.out.more hok hk (fun e => Hne.out (HXe.out.symm.trans e))
                    rwa [HXe.out] at this), e8.out.setCell (p := ⟨w.heap.size, k, none⟩) (Nat.le_refl _) _, by rw [block_set Hblk7.out, setsA_set]⟩
        · obtain rfl : ii = -1 := by omega
          have hmid' := hmid.out
          have Hmid := Lib.hid hmid'
          clear hmid hmid'
          go_wp2
          go_roundg (restV V' + b.toNat)
          case measure =>
            cases b
            · rw [(Hmid.out.2.1 rfl).1]; simp
            · have := Hmid.out.2.2 rfl; simp; omega
          case rel => exact ⟨V', b, rfl, rfl, Hmid.out.1, fun hb i hi => (Hmid.out.2.1 hb).2 i (by omega) hi, Hb2.out, Hblk2.out⟩
end Go.Proofs.YtkcmijnaheapdaaDoor
