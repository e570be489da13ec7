/- Package peep: an instruction is taken out; what stands beside one. -/
import Derived.Test.YtkcmijnaheapdaaDoorBase
import Derived.Test.YtkcmijnaheapdaaDoorRows
import Derived.IntWalk
import Derived.Outline
import Derived.Deep.LoopGhost
import Derived.Deep.RegionLaw
import Derived.Deep.CutBlock
import Derived.Deep.DeepCutAuto
import Derived.Test.YtkcmijnaheapdaaDoorPk6
namespace Go.Proofs.YtkcmijnaheapdaaDoor
open Go.RowKit
set_option linter.unusedSimpArgs false
set_option linter.unusedVariables false

theorem one_Mac (xs : List Mac) : ∀ u ∈ xs.flatMap Mac.cells, u.oneCell' = true := by
  intro u hu
  obtain ⟨m, _, hm⟩ := List.mem_flatMap.1 hu
  simp [Mac.cells] at hm
  rcases hm with rfl | rfl | rfl | rfl | rfl <;> rfl
theorem zero_Mac (w : World) : (zeroValue 44).run Tryd.prog w = .ok (.agg #[.int .i64 0, .int .i64 0, .int .i64 0, .int .i64 0, .int .i64 0]) w := by kernel_rfl

set_option maxHeartbeats 400000 in
set_option maxRecDepth 100000 in
theorem DeleteM_calls (g n cap i : Nat) (xs : List Mac) (w : World) (base : Nat) (hown : w.ownsRow base 44 5 (.slice (some ⟨g, 0, none⟩) n cap) n (xs.flatMap Mac.cells)) (hn : n = xs.length) (hi : i < n) (hmax : n ≤ 4294967296) (R : Ending → World → Prop)
    (hR : ∀ w', w.grownBy w' (some g) → w'.ownsRow base 44 5 (.slice (some ⟨g, 0, none⟩) (n - 1) cap) (n - 1) ((xs.eraseIdx i).flatMap Mac.cells) → R (.returned (.slice (some ⟨g, 0, none⟩) (n - 1) cap)) w') :
    Calls Tryd.prog 156 #[.slice (some ⟨g, 0, none⟩) n cap, .int .i64 (i : Int), .int .i64 ((i : Int) + 1)] w R := by
  obtain ⟨i0, hi0, hz0, hz1, hz2⟩ := info_parts info_Mac
  have hnc : n ≤ cap ∧ cap ≤ 9223372036854775807 := by
    rcases hown.2 with ⟨h, _⟩ | ⟨_, _, _, h, _, _, h1, h2, _, _⟩
    · simp at h
    · injection h with _ _ h
      subst h
      exact ⟨h1, h2⟩
  obtain ⟨hcap, hmx⟩ := hnc
  have hfl : (xs.flatMap Mac.cells).length = n * 5 := hown.1
  -- the cells that are moved to the left
  obtain ⟨A, hA, hnews⟩ : ∃ A : Addr, (if cap = i + 1 then some (⟨g, 0, none⟩ : Addr) else some ⟨g, (i + 1) * 5, none⟩) = some A ∧ Hid (∀ j u, ((xs.flatMap Mac.cells).drop ((i + 1) * 5))[j]? = some u → w.drew.cell? (A.add j) = some u) := by
    by_cases h : cap = i + 1
    · refine ⟨⟨g, 0, none⟩, by simp [h], fun j u hu => ?_⟩
      rw [List.drop_of_length_le (by omega)] at hu
      simp at hu
    · refine ⟨⟨g, (i + 1) * 5, none⟩, by simp [h], fun j u hu => ?_⟩
      have hj : (i + 1) * 5 + j < n * 5 := by
        have := (List.getElem?_eq_some_iff.1 hu).1
        rw [List.length_drop, hfl] at this
        omega
      rw [Addr.add_lit]
      rw [List.getElem?_drop] at hu
      exact (hown.cellAt _ hj).trans hu
  have s1 : Hid (((xs.flatMap Mac.cells).drop ((i + 1) * 5)).length = (n - (i + 1)) * 5) := by show _ = _; rw [List.length_drop, hfl]; omega
  have s2 : Hid (∀ u ∈ (xs.flatMap Mac.cells).drop ((i + 1) * 5), u.oneCell' = true) := fun u hu => one_Mac xs u (List.mem_of_mem_drop hu)
  have s3 : Hid (∀ j, j < ((xs.flatMap Mac.cells).drop ((i + 1) * 5)).length → (w.drew.cell? ⟨g, 0 + i * 5 + j, none⟩).isSome = true ∧ w.drew.frozen? ⟨g, 0 + i * 5 + j, none⟩ = false) := by
    intro j hj
    rw [s1.out] at hj
    exact own_there hown _ (by omega)
  have hic : i ≤ cap := by omega
  have hwr : IntKind.i64.wrap ((i : Int) + 1) = (i : Int) + 1 := by rw [IntKind.wrap_i64]; omega
  have hp0 : (0 : Int) ≤ (i : Int) + 1 := by omega
  have hp1 : (i : Int) + 1 ≤ (n : Int) := by omega
  have hp2 : ((i : Int) + 1).toNat = i + 1 := by omega
  have hne : ((i : Int) == (i : Int) + 1) = false := by simp; omega
  have Hw := Lib.hid hown
  clear hown hfl
  have Hn := Lib.hid hn
  clear hn
  go_enter Tryd.func156, Tryd.ntmps156
  go_wp2_with fail
  go_region_law (refine step_append_room rfl (.tmp 22) (.tmp 25) 45 rfl 44 i0 5 Tryd.underlying45 hi0 hz1 g 0 i cap (by simp [Act.eval, Act.put]) A (n - (i + 1)) (cap - (i + 1)) ((xs.flatMap Mac.cells).drop ((i + 1) * 5)) (by simp [Act.eval, Act.put]) s1.out hnews.out s2.out (by omega) s3.out ?_)
  rw [show i + (n - (i + 1)) = n - 1 from by omega]
  have hown1 : (w.drew.setCells g (i * 5) ((xs.flatMap Mac.cells).drop ((i + 1) * 5))).ownsRow base 44 5 (.slice (some ⟨g, 0, none⟩) (n - 1) cap) (n - 1) ((xs.eraseIdx i).flatMap Mac.cells) := by
    refine own_setCells (w := w.drew) Hw.out (by rw [s1.out]; omega) (by omega) _ ?_
    rw [flat_erase Mac.cells 5 (fun _ => rfl), List.take_append_of_le_length, List.take_of_length_le]
    · rw [flat_length Mac.cells 5 (fun _ => rfl), List.length_eraseIdx, if_pos (by rw [← Hn.out]; exact hi), ← Hn.out]
      exact Nat.le_refl _
    · rw [flat_length Mac.cells 5 (fun _ => rfl), List.length_eraseIdx, if_pos (by rw [← Hn.out]; exact hi), ← Hn.out]
      exact Nat.le_refl _
  have hg1 : w.grownBy (w.drew.setCells g (i * 5) ((xs.flatMap Mac.cells).drop ((i + 1) * 5))) (some g) := grown_setCells _ _ _ ⟨rfl, rfl, rfl, Nat.le_refl _, fun _ _ _ => rfl⟩
  generalize w.drew.setCells g (i * 5) ((xs.flatMap Mac.cells).drop ((i + 1) * 5)) = w1 at *
  clear s1 s2 s3 hnews hA Hw
  have hp3 : (0 : Int) ≤ ((n - 1 : Nat) : Int) := by omega
  have hp4 : ((n - 1 : Nat) : Int) ≤ (n : Int) := by omega
  have hp5 : (n : Int) ≤ (cap : Int) := by omega
  go_wp2_with (with_reducible refine wpList_clear_own rfl (.tmp 31) 45 rfl 44 _ Tryd.underlying45 zero_Mac rfl ?_ hown1 ((n - 1) * 5) (n - (n - 1)) (cap - (n - 1)) ?_ ?_ ?_ ?_)
  · intro u hu
    simp [Value.cells] at hu
    subst hu
    rfl
  · rfl
  · omega
  · exact fun _ => rfl
  · intro w2 hown2 hg2
    go_wp2
    exact hR _ (hg1.trans hg2) hown2


theorem flatM_put (n : Int) : ∀ (l : List Mac) (k : Nat), k < l.length → (l.flatMap Mac.cells).take (k * 5 + 4) ++ [(Value.int .i64 n)] ++ (l.flatMap Mac.cells).drop (k * 5 + 4 + 1) = (l.set k (withN (atL l k) n)).flatMap Mac.cells
  | [], k, h => by simp at h
  | m :: l, 0, _ => by simp [withN, atL, Mac.cells]
  | m :: l, k + 1, h => by
    have ih := flatM_put n l k (by simpa using h)
    have e : (m :: l).set (k + 1) (withN (atL (m :: l) (k + 1)) n) = m :: l.set k (withN (atL l k) n) := by simp [atL]
    rw [e, List.flatMap_cons, List.flatMap_cons, ← ih, show (k + 1) * 5 + 4 + 1 = (Mac.cells m).length + (k * 5 + 4 + 1) from by simp [Mac.cells]; omega, show (k + 1) * 5 + 4 = (Mac.cells m).length + (k * 5 + 4) from by simp [Mac.cells]; omega, List.take_length_add_append, List.drop_length_add_append]
    simp
theorem ownM_put {w : World} {base g cap k N : Nat} {l : List Mac} (h : w.ownsRow base 44 5 (.slice (some ⟨g, 0, none⟩) N cap) N (l.flatMap Mac.cells)) (hN : l.length = N) (hk : k < N) (n : Int) :
    (w.setCell ⟨g, k * 5 + 4, none⟩ (.int .i64 n)).ownsRow base 44 5 (.slice (some ⟨g, 0, none⟩) N cap) N ((l.set k (withN (atL l k) n)).flatMap Mac.cells) := by
  subst hN
  have := own_setCells (vs := [.int .i64 n]) (o := k * 5 + 4) h (by simp; omega) (Nat.le_refl _) ((l.set k (withN (atL l k) n)).flatMap Mac.cells) (by
    show ((l.flatMap Mac.cells).take (k * 5 + 4) ++ [Value.int .i64 n] ++ (l.flatMap Mac.cells).drop (k * 5 + 4 + 1)).take (l.length * 5) = _
    rw [flatM_put n l k hk, List.take_of_length_le]
    rw [flat_length Mac.cells 5 (fun _ => rfl), List.length_set]
    exact Nat.le_refl _)
  exact this
/-- An instruction is written anew. -/
theorem ownM_set {w : World} {base g cap k N : Nat} {l : List Mac} (h : w.ownsRow base 44 5 (.slice (some ⟨g, 0, none⟩) N cap) N (l.flatMap Mac.cells)) (hN : l.length = N) (hk : k < N) (m : Mac) :
    (((((w.setCell ⟨g, k * 5, none⟩ (.int .i64 m.op)).setCell ⟨g, k * 5 + 1, none⟩ (.int .i64 m.dst)).setCell ⟨g, k * 5 + 2, none⟩ (.int .i64 m.a)).setCell ⟨g, k * 5 + 3, none⟩ (.int .i64 m.b)).setCell ⟨g, k * 5 + 4, none⟩ (.int .i64 m.n)).ownsRow base 44 5 (.slice (some ⟨g, 0, none⟩) N cap) N ((l.set k m).flatMap Mac.cells) := by
  subst hN
  have := own_setCells (vs := m.cells) (o := k * 5) h (by simp [Mac.cells]; omega) (Nat.le_refl _) ((l.set k m).flatMap Mac.cells) (by
    rw [flat_set Mac.cells 5 (fun _ => rfl) l k m hk, List.take_of_length_le]
    rw [flat_length Mac.cells 5 (fun _ => rfl), List.length_set]
    exact Nat.le_refl _)
  exact this
theorem row_type' {w : World} {base : Nat} {e : TypeId} {size n : Nat} {v : Value} {xs : List Value} (h : w.ownsRow base e size v n xs) {g : Nat} (hg : v.ownBlock = some g) : ∃ cur, w.heap[g]? = some (.cells cur e (0, 0)) := by
  rcases h.2 with ⟨rfl, _⟩ | ⟨g', cap, cur, rfl, _, hh, _⟩
  · cases hg
  · obtain rfl : g' = g := Option.some.inj hg
    exact ⟨cur, hh⟩
theorem row_not' {w : World} {base : Nat} {e : TypeId} {size n : Nat} {v : Value} {xs : List Value} (h : w.ownsRow base e size v n xs) {b : Nat} {A : Array Value} {T : TypeId} {fr : Nat × Nat} (hb : w.heap[b]? = some (.cells A T fr)) (ht : e ≠ T) : v.ownBlock ≠ some b := fun hg => by
  obtain ⟨cur, hc⟩ := row_type' h hg
  rw [hb] at hc
  injection hc with hc
  injection hc with _ h2
  exact ht h2.symm
/-- What an instruction in a row of the call's own holds. -/
structure MacC (w : World) (g k : Nat) (m : Mac) : Prop where
  c0 : w.cell? ⟨g, k * 5, none⟩ = some (.int .i64 m.op)
  c1 : w.cell? ⟨g, k * 5 + 1, none⟩ = some (.int .i64 m.dst)
  c2 : w.cell? ⟨g, k * 5 + 2, none⟩ = some (.int .i64 m.a)
  c3 : w.cell? ⟨g, k * 5 + 3, none⟩ = some (.int .i64 m.b)
  c4 : w.cell? ⟨g, k * 5 + 4, none⟩ = some (.int .i64 m.n)
  fz : ∀ j, w.frozen? ⟨g, j, none⟩ = false
  lg : g < w.heap.size
theorem ownM_at {w : World} {base g cap k N : Nat} {l : List Mac} (h : w.ownsRow base 44 5 (.slice (some ⟨g, 0, none⟩) N cap) N (l.flatMap Mac.cells)) (hN : l.length = N) (hk : k < N) : MacC w g k (atL l k) := by
  subst hN
  have e : l[k]? = some (atL l k) := by rw [atL_get hk, List.getElem?_eq_getElem hk]
  have c : ∀ j, j < 5 → w.cell? ⟨g, k * 5 + j, none⟩ = (atL l k).cells[j]? := fun j hj => by
    rw [← Rp.flat_get Mac.cells 5 (fun _ => rfl) l k j (atL l k) e hj]
    exact h.cellAt _ (by omega)
  refine ⟨c 0 (by omega), c 1 (by omega), c 2 (by omega), c 3 (by omega), c 4 (by omega), fun j => ?_, (h.lt g rfl).2⟩
  obtain ⟨cur, hh⟩ := row_type' h rfl
  simp [World.frozen?, hh]

/-- What is left when an instruction is taken out: the row, the window's variable. -/
structure Left (w : World) (base p : Nat) (l : List Mac) : Prop where
  row : ∃ g cap vl vr vm, w.heap[p]? = some (.cells #[.slice (some ⟨g, 0, none⟩) l.length cap, vl, vr, vm] 185 (0, 0)) ∧ w.ownsRow base 44 5 (.slice (some ⟨g, 0, none⟩) l.length cap) l.length (l.flatMap Mac.cells)
def decTo (i : Nat) (l : List Mac) (k : Nat) : List Mac := (l.take k).map (decM i) ++ l.drop k
theorem decTo_len (i : Nat) (l : List Mac) (k : Nat) : (decTo i l k).length = l.length := by
  unfold decTo
  rw [List.length_append, List.length_map, List.length_take, List.length_drop]
  omega
theorem decTo_at (i : Nat) {l : List Mac} {k : Nat} (h : k < l.length) : atL (decTo i l k) k = atL l k := by
  unfold decTo atL
  rw [List.getD_eq_getElem?_getD, List.getD_eq_getElem?_getD, List.getElem?_append_right (by rw [List.length_map, List.length_take]; omega), List.length_map, List.length_take, List.getElem?_drop, show k + (k - min k l.length) = k from by omega]
theorem decTo_step (i : Nat) {l : List Mac} {k : Nat} (h : k < l.length) : decTo i l (k + 1) = (decTo i l k).set k (decM i (atL l k)) := by
  unfold decTo
  have e1 : (l.take k).length = k := by rw [List.length_take]; omega
  rw [take_snoc' h, List.map_append, List.set_append_right _ _ (by rw [List.length_map]; omega), List.length_map, e1, Nat.sub_self, List.drop_eq_getElem_cons h, List.set_cons_zero, atL_get h]
  simp
theorem decTo_end (i : Nat) (l : List Mac) : decTo i l l.length = l.map (decM i) := by
  unfold decTo
  rw [List.take_length, List.drop_length, List.append_nil]
set_option maxRecDepth 100000 in
set_option maxHeartbeats 2000000 in
theorem out_calls (w : World) (base p g cap N i : Nat) (l : List Mac) (vl vr vm : Value) (hp : w.heap[p]? = some (.cells #[.slice (some ⟨g, 0, none⟩) N cap, vl, vr, vm] 185 (0, 0))) (hown : w.ownsRow base 44 5 (.slice (some ⟨g, 0, none⟩) N cap) N (l.flatMap Mac.cells)) (hN : l.length = N)
    (hbp : base ≤ p) (hi : i < N) (hmax : N ≤ 5000) (hj : ∀ m ∈ l, jumpsM m = true → 0 ≤ m.n ∧ m.n ≤ 5000) (R : Ending → World → Prop) (hR : ∀ w', Below base w w' → Left w' base p (goneL l i) → R (.returned (.bool true)) w') :
    Calls Tryd.prog 145 #[.pointer (some ⟨p, 0, none⟩), .int .i64 (i : Int)] w R := by
  have HR := Lib.hid hR
  have lp := blk_lt hp
  have hne : g ≠ p := fun e => row_not' hown hp (by decide) (by rw [e]; rfl)
  have hg := (hown.lt g rfl)
  have q0 : w.cell? ⟨p, 0, none⟩ = some (.slice (some ⟨g, 0, none⟩) N cap) := by rw [blk_cell' hp]; rfl
  have i0 : (0 : Int) ≤ (i : Int) := by omega
  have i1 : (i : Int) + 1 ≤ 9223372036854775807 := by omega
  have HN := Lib.hid hN
  clear hR
  go_enter Tryd.func145, Tryd.ntmps145
  go_wp2_with fail
  refine DeleteM_calls g N cap i l _ base hown hN.symm hi (by omega) _ (fun w1 hg1 hown1 => ?_)
  have hp1 := block_grown hg1 hp (by simpa using hne)
  have q1 : w1.cell? ⟨p, 0, none⟩ = some (.slice (some ⟨g, 0, none⟩) N cap) := by rw [blk_cell' hp1]; rfl
  have f1 : w1.frozen? ⟨p, 0, none⟩ = false := by simp [World.frozen?, hp1]
  have lp1 := blk_lt hp1
  have hb1 : Below base w w1 := grown_below hg1 hg.1 (Nat.le_trans hbp (Nat.le_of_lt lp))
  have hel : (l.eraseIdx i).length = N - 1 := by rw [List.length_eraseIdx, if_pos (by rw [HN.out]; exact hi), HN.out]
  have hej : ∀ m ∈ l.eraseIdx i, jumpsM m = true → 0 ≤ m.n ∧ m.n ≤ 5000 := fun m hm => hj m (List.mem_of_mem_eraseIdx hm)
  have hge : goneL l i = (l.eraseIdx i).map (decM i) := rfl
  have hgl : (goneL l i).length = N - 1 := by rw [goneL_len (by rw [HN.out]; exact hi), HN.out]
  have HR2 : Hid (∀ (w' : World), Below base w w' → Left w' base p (goneL l i) → R (.returned (.bool true)) w') := HR
  generalize l.eraseIdx i = L at *
  have Hel := Lib.hid hel
  have Hej := Lib.hid hej
  have Hge := Lib.hid hge
  have Hgl := Lib.hid hgl
  generalize goneL l i = GL at *
  have hp2 : (w1.setCell ⟨p, 0, none⟩ (.slice (some ⟨g, 0, none⟩) (N - 1) cap)).heap[p]? = some (.cells #[.slice (some ⟨g, 0, none⟩) (N - 1) cap, vl, vr, vm] 185 (0, 0)) := by rw [block_set hp1]; rfl
  have ho2 := own_setCell_other (p := ⟨p, 0, none⟩) hown1 (by intro e; exact hne (Option.some.inj e)) (.slice (some ⟨g, 0, none⟩) (N - 1) cap)
  have hb2 := hb1.setCell (p := ⟨p, 0, none⟩) hbp (.slice (some ⟨g, 0, none⟩) (N - 1) cap)
  have HP2 := Lib.hid hp2
  have HO2 := Lib.hid ho2
  have HB2 := Lib.hid hb2
  obtain ⟨n1, hn1⟩ : ∃ n1, n1 = N - 1 := ⟨_, rfl⟩
  rw [← hn1] at HP2 HO2 HB2 Hel Hgl
  have hnm : n1 ≤ 5000 := by omega
  rw [← hn1]
  clear i1 hp hown hg1 hown1 hp1 hb1 hel hej hge hgl hp2 ho2 hb2 hN HR hj q0 hn1 HN
  go_wp2_with fail
  go_loopg [23] n1 (fun gh s23 wr => ∃ k : Nat, k ≤ n1 ∧ gh = n1 - k ∧ s23 = .int .i64 (k : Int) ∧ Hid (wr.heap[p]? = some (.cells #[.slice (some ⟨g, 0, none⟩) n1 cap, vl, vr, vm] 185 (0, 0))) ∧ Hid (wr.ownsRow base 44 5 (.slice (some ⟨g, 0, none⟩) n1 cap) n1 ((decTo i L k).flatMap Mac.cells)) ∧ Hid (Below base w wr))
  case atStart => exact ⟨0, Nat.zero_le _, rfl, rfl, HP2, Lib.hid (by simpa [decTo] using HO2.out), HB2⟩
  case round =>
    obtain ⟨k, hk, rfl, rfl, HP, HO, HB⟩ := hrel
    have q0 : wr.cell? ⟨p, 0, none⟩ = some (.slice (some ⟨g, 0, none⟩) n1 cap) := by rw [blk_cell' HP.out]; rfl
    have lpr := blk_lt HP.out
    by_cases hlt : k < n1
    · have hC := ownM_at HO.out (by rw [decTo_len]; exact Hel.out) hlt
      have hkL : k < L.length := by rw [Hel.out]; exact hlt
      rw [decTo_at i hkL] at hC
      have hst := decTo_step i hkL
      have hjm := Hej.out (atL L k) (atL_in hkL)
      have hset : ∀ (W : World) (x : Int), W.ownsRow base 44 5 (.slice (some ⟨g, 0, none⟩) n1 cap) n1 ((decTo i L k).flatMap Mac.cells) → (W.setCell ⟨g, k * 5 + 4, none⟩ (.int .i64 x)).ownsRow base 44 5 (.slice (some ⟨g, 0, none⟩) n1 cap) n1 (((decTo i L k).set k (withN (atL L k) x)).flatMap Mac.cells) := fun W x hW => by
        have := ownM_put hW (by rw [decTo_len]; exact Hel.out) hlt x
        rwa [decTo_at i hkL] at this
      have hsame : (decTo i L k).set k (atL L k) = decTo i L k := by
        have := decTo_at i hkL
        rw [← this, atL_get (by rw [decTo_len]; exact hkL), List.set_getElem_self]
      generalize atL L k = m at *
      have d0 := hC.c0
      have d1 := hC.c1
      have d2 := hC.c2
      have d3 := hC.c3
      have d4 := hC.c4
      have dg := hC.lg
      have df := hC.fz (k * 5 + 4)
      have Hst := Lib.hid hst
      have Hset := Lib.hid hset
      have Hsame := Lib.hid hsame
      have k0 : (0 : Int) ≤ (k : Int) := by omega
      have k1 : (k : Int) < (n1 : Int) := by omega
      have hbz : base ≤ wr.heap.size := Nat.le_trans hbp (Nat.le_of_lt lpr)
      clear hC hst hset hsame
      go_wp2_with fail
      refine jumps_calls m _ _ (fun w5 hb5 => ?_)
      have hP5 := (hb5.block _ lpr).trans HP.out
      have q5 : w5.cell? ⟨p, 0, none⟩ = some (.slice (some ⟨g, 0, none⟩) n1 cap) := by rw [blk_cell' hP5]; rfl
      have e4 := (hb5.cell (p := ⟨g, k * 5 + 4, none⟩) dg).trans d4
      have ef := (hb5.frozen (p := ⟨g, k * 5 + 4, none⟩) dg).trans df
      have eg := Nat.lt_of_lt_of_le dg hb5.size
      have HP5 := Lib.hid hP5
      have lp5 := blk_lt hP5
      have HB5 := Lib.hid (HB.out.trans (hb5.mono hbz))
      have HO5 := Lib.hid (own_below HO.out hb5)
      clear hb5 hP5 q0 d0 d1 d2 d3 d4 dg df
      cases hj : jumpsM m
      · have Hst2 := Lib.hid (show decTo i L (k + 1) = decTo i L k by rw [Hst.out, show decM i m = m from by (unfold decM; rw [hj, if_neg (by simp)]), Hsame.out])
        clear hj hjm
        go_wp2
        go_roundg (n1 - (k + 1))
        case measure => omega
        case rel => exact ⟨k + 1, by omega, rfl, by go_num, HP5, Lib.hid (by rw [Hst2.out]; exact HO5.out), HB5⟩
      · obtain ⟨n0, n5⟩ := hjm hj
        by_cases hin : (i : Int) < m.n
        · have Hst2 := Lib.hid (show decTo i L (k + 1) = (decTo i L k).set k (withN m (m.n - 1)) by rw [Hst.out, show decM i m = withN m (m.n - 1) from by (unfold decM; rw [if_pos ⟨hj, hin⟩]; rfl)])
          clear hj
          go_wp2
          go_roundg (n1 - (k + 1))
          case measure => omega
          case rel => exact ⟨k + 1, by omega, rfl, by go_num, Lib.hid (blk_other HP5.out (Ne.symm hne) _), Lib.hid (by rw [Hst2.out]; exact Hset.out _ _ HO5.out), Lib.hid (HB5.out.setCell (p := ⟨g, k * 5 + 4, none⟩) hg.1 _)⟩
        · have Hst2 := Lib.hid (show decTo i L (k + 1) = decTo i L k by rw [Hst.out, show decM i m = m from by (unfold decM; rw [if_neg (fun e => hin e.2)]), Hsame.out])
          clear hj
          go_wp2
          go_roundg (n1 - (k + 1))
          case measure => omega
          case rel => exact ⟨k + 1, by omega, rfl, by go_num, HP5, Lib.hid (by rw [Hst2.out]; exact HO5.out), HB5⟩
    · obtain rfl : k = n1 := by omega
      have hfin : Left wr base p GL := by
        refine ⟨g, cap, vl, vr, vm, ?_, ?_⟩
        · rw [Hgl.out]; exact HP.out
        · rw [Hgl.out, Hge.out, ← decTo_end, Hel.out]; exact HO.out
      have H1 := Lib.hid (HR2.out wr HB.out hfin)
      clear hfin
      go_wp2
      exact H1.out
end Go.Proofs.YtkcmijnaheapdaaDoor
