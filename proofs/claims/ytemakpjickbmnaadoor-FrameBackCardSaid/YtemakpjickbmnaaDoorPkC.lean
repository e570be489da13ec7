/- Package peep: an instruction is taken out; what stands beside one. Package peep: what stands beside; the rules of an instruction alone. Package peep: more rules of an instruction alone. -/
import Derived.Test.YtemakpjickbmnaaDoorBase
import Derived.Test.YtemakpjickbmnaaDoorRows
import Derived.IntWalk
import Derived.Outline
import Derived.Deep.LoopGhost
import Derived.Deep.RegionLaw
import Derived.Deep.CutBlock
import Derived.Deep.DeepCutAuto
import Derived.Test.YtemakpjickbmnaaDoorPkB
/- Package peep: an instruction is taken out; what stands beside one. -/
namespace Go.Proofs.YtemakpjickbmnaaDoor
open Go.RowKit
set_option linter.unusedSimpArgs false
set_option linter.unusedVariables false

theorem one_Mac (xs : List Mac) : ∀ u ∈ xs.flatMap Mac.cells, u.oneCell' = true := by
  intro u hu
  obtain ⟨m, _, hm⟩ := List.mem_flatMap.1 hu
  simp [Mac.cells] at hm
  rcases hm with rfl | rfl | rfl | rfl | rfl <;> rfl
theorem zero_Mac (w : World) : (zeroValue 36).run Tryd.prog w = .ok (.agg #[.int .i64 0, .int .i64 0, .int .i64 0, .int .i64 0, .int .i64 0]) w := by kernel_rfl

set_option maxHeartbeats 400000 in
set_option maxRecDepth 100000 in
theorem DeleteM_calls (g n cap i : Nat) (xs : List Mac) (w : World) (base : Nat) (hown : w.ownsRow base 36 5 (.slice (some ⟨g, 0, none⟩) n cap) n (xs.flatMap Mac.cells)) (hn : n = xs.length) (hi : i < n) (hmax : n ≤ 4294967296) (R : Ending → World → Prop)
    (hR : ∀ w', w.grownBy w' (some g) → w'.ownsRow base 36 5 (.slice (some ⟨g, 0, none⟩) (n - 1) cap) (n - 1) ((xs.eraseIdx i).flatMap Mac.cells) → R (.returned (.slice (some ⟨g, 0, none⟩) (n - 1) cap)) w') :
    Calls Tryd.prog 151 #[.slice (some ⟨g, 0, none⟩) n cap, .int .i64 (i : Int), .int .i64 ((i : Int) + 1)] w R := by
  obtain ⟨i0, hi0, hz0, hz1, hz2⟩ := info_parts info_Mac
  have hnc : n ≤ cap ∧ cap ≤ 9223372036854775807 := by
    rcases hown.2 with ⟨h, _⟩ | ⟨_, _, _, h, _, _, h1, h2, _, _⟩
    · simp at h
    · injection h with _ _ h
      subst h
      exact ⟨h1, h2⟩
  obtain ⟨hcap, hmx⟩ := hnc
  have hfl : (xs.flatMap Mac.cells).length = n * 5 := hown.1
  -- the cells that are moved to the left
  obtain ⟨A, hA, hnews⟩ : ∃ A : Addr, (if cap = i + 1 then some (⟨g, 0, none⟩ : Addr) else some ⟨g, (i + 1) * 5, none⟩) = some A ∧ Hid (∀ j u, ((xs.flatMap Mac.cells).drop ((i + 1) * 5))[j]? = some u → w.drew.cell? (A.add j) = some u) := by
    by_cases h : cap = i + 1
    · refine ⟨⟨g, 0, none⟩, by simp [h], fun j u hu => ?_⟩
      rw [List.drop_of_length_le (by omega)] at hu
      simp at hu
    · refine ⟨⟨g, (i + 1) * 5, none⟩, by simp [h], fun j u hu => ?_⟩
      have hj : (i + 1) * 5 + j < n * 5 := by
        have := (List.getElem?_eq_some_iff.1 hu).1
        rw [List.length_drop, hfl] at this
        omega
      rw [Addr.add_lit]
      rw [List.getElem?_drop] at hu
      exact (hown.cellAt _ hj).trans hu
  have s1 : Hid (((xs.flatMap Mac.cells).drop ((i + 1) * 5)).length = (n - (i + 1)) * 5) := by show _ = _; rw [List.length_drop, hfl]; omega
  have s2 : Hid (∀ u ∈ (xs.flatMap Mac.cells).drop ((i + 1) * 5), u.oneCell' = true) := fun u hu => one_Mac xs u (List.mem_of_mem_drop hu)
  have s3 : Hid (∀ j, j < ((xs.flatMap Mac.cells).drop ((i + 1) * 5)).length → (w.drew.cell? ⟨g, 0 + i * 5 + j, none⟩).isSome = true ∧ w.drew.frozen? ⟨g, 0 + i * 5 + j, none⟩ = false) := by
    intro j hj
    rw [s1.out] at hj
    exact own_there hown _ (by omega)
  have hic : i ≤ cap := by omega
  have hwr : IntKind.i64.wrap ((i : Int) + 1) = (i : Int) + 1 := by rw [IntKind.wrap_i64]; omega
  have hp0 : (0 : Int) ≤ (i : Int) + 1 := by omega
  have hp1 : (i : Int) + 1 ≤ (n : Int) := by omega
  have hp2 : ((i : Int) + 1).toNat = i + 1 := by omega
  have hne : ((i : Int) == (i : Int) + 1) = false := by simp; omega
  have Hw := Lib.hid hown
  clear hown hfl
  have Hn := Lib.hid hn
  clear hn
  go_enter Tryd.func151, Tryd.ntmps151
  go_wp2_with fail
  go_region_law (refine step_append_room rfl (.tmp 22) (.tmp 25) 23 rfl 36 i0 5 Tryd.underlying23 hi0 hz1 g 0 i cap (by simp [Act.eval, Act.put]) A (n - (i + 1)) (cap - (i + 1)) ((xs.flatMap Mac.cells).drop ((i + 1) * 5)) (by simp [Act.eval, Act.put]) s1.out hnews.out s2.out (by omega) s3.out ?_)
  rw [show i + (n - (i + 1)) = n - 1 from by omega]
  have hown1 : (w.drew.setCells g (i * 5) ((xs.flatMap Mac.cells).drop ((i + 1) * 5))).ownsRow base 36 5 (.slice (some ⟨g, 0, none⟩) (n - 1) cap) (n - 1) ((xs.eraseIdx i).flatMap Mac.cells) := by
    refine own_setCells (w := w.drew) Hw.out (by rw [s1.out]; omega) (by omega) _ ?_
    rw [flat_erase Mac.cells 5 (fun _ => rfl), List.take_append_of_le_length, List.take_of_length_le]
    · rw [flat_length Mac.cells 5 (fun _ => rfl), List.length_eraseIdx, if_pos (by rw [← Hn.out]; exact hi), ← Hn.out]
      exact Nat.le_refl _
    · rw [flat_length Mac.cells 5 (fun _ => rfl), List.length_eraseIdx, if_pos (by rw [← Hn.out]; exact hi), ← Hn.out]
      exact Nat.le_refl _
  have hg1 : w.grownBy (w.drew.setCells g (i * 5) ((xs.flatMap Mac.cells).drop ((i + 1) * 5))) (some g) := grown_setCells _ _ _ ⟨rfl, rfl, rfl, Nat.le_refl _, fun _ _ _ => rfl⟩
  generalize w.drew.setCells g (i * 5) ((xs.flatMap Mac.cells).drop ((i + 1) * 5)) = w1 at *
  clear s1 s2 s3 hnews hA Hw
  have hp3 : (0 : Int) ≤ ((n - 1 : Nat) : Int) := by omega
  have hp4 : ((n - 1 : Nat) : Int) ≤ (n : Int) := by omega
  have hp5 : (n : Int) ≤ (cap : Int) := by omega
  go_wp2_with (with_reducible refine wpList_clear_own rfl (.tmp 31) 23 rfl 36 _ Tryd.underlying23 zero_Mac rfl ?_ hown1 ((n - 1) * 5) (n - (n - 1)) (cap - (n - 1)) ?_ ?_ ?_ ?_)
  · intro u hu
    simp [Value.cells] at hu
    subst hu
    rfl
  · rfl
  · omega
  · exact fun _ => rfl
  · intro w2 hown2 hg2
    go_wp2
    exact hR _ (hg1.trans hg2) hown2


theorem flatM_put (n : Int) : ∀ (l : List Mac) (k : Nat), k < l.length → (l.flatMap Mac.cells).take (k * 5 + 4) ++ [(Value.int .i64 n)] ++ (l.flatMap Mac.cells).drop (k * 5 + 4 + 1) = (l.set k (withN (atL l k) n)).flatMap Mac.cells
  | [], k, h => by simp at h
  | m :: l, 0, _ => by simp [withN, atL, Mac.cells]
  | m :: l, k + 1, h => by
    have ih := flatM_put n l k (by simpa using h)
    have e : (m :: l).set (k + 1) (withN (atL (m :: l) (k + 1)) n) = m :: l.set k (withN (atL l k) n) := by simp [atL]
    rw [e, List.flatMap_cons, List.flatMap_cons, ← ih, show (k + 1) * 5 + 4 + 1 = (Mac.cells m).length + (k * 5 + 4 + 1) from by simp [Mac.cells]; omega, show (k + 1) * 5 + 4 = (Mac.cells m).length + (k * 5 + 4) from by simp [Mac.cells]; omega, List.take_length_add_append, List.drop_length_add_append]
    simp
theorem ownM_put {w : World} {base g cap k N : Nat} {l : List Mac} (h : w.ownsRow base 36 5 (.slice (some ⟨g, 0, none⟩) N cap) N (l.flatMap Mac.cells)) (hN : l.length = N) (hk : k < N) (n : Int) :
    (w.setCell ⟨g, k * 5 + 4, none⟩ (.int .i64 n)).ownsRow base 36 5 (.slice (some ⟨g, 0, none⟩) N cap) N ((l.set k (withN (atL l k) n)).flatMap Mac.cells) := by
  subst hN
  have := own_setCells (vs := [.int .i64 n]) (o := k * 5 + 4) h (by simp; omega) (Nat.le_refl _) ((l.set k (withN (atL l k) n)).flatMap Mac.cells) (by
    show ((l.flatMap Mac.cells).take (k * 5 + 4) ++ [Value.int .i64 n] ++ (l.flatMap Mac.cells).drop (k * 5 + 4 + 1)).take (l.length * 5) = _
    rw [flatM_put n l k hk, List.take_of_length_le]
    rw [flat_length Mac.cells 5 (fun _ => rfl), List.length_set]
    exact Nat.le_refl _)
  exact this
/-- An instruction is written anew. -/
theorem ownM_set {w : World} {base g cap k N : Nat} {l : List Mac} (h : w.ownsRow base 36 5 (.slice (some ⟨g, 0, none⟩) N cap) N (l.flatMap Mac.cells)) (hN : l.length = N) (hk : k < N) (m : Mac) :
    (((((w.setCell ⟨g, k * 5, none⟩ (.int .i64 m.op)).setCell ⟨g, k * 5 + 1, none⟩ (.int .i64 m.dst)).setCell ⟨g, k * 5 + 2, none⟩ (.int .i64 m.a)).setCell ⟨g, k * 5 + 3, none⟩ (.int .i64 m.b)).setCell ⟨g, k * 5 + 4, none⟩ (.int .i64 m.n)).ownsRow base 36 5 (.slice (some ⟨g, 0, none⟩) N cap) N ((l.set k m).flatMap Mac.cells) := by
  subst hN
  have := own_setCells (vs := m.cells) (o := k * 5) h (by simp [Mac.cells]; omega) (Nat.le_refl _) ((l.set k m).flatMap Mac.cells) (by
    rw [flat_set Mac.cells 5 (fun _ => rfl) l k m hk, List.take_of_length_le]
    rw [flat_length Mac.cells 5 (fun _ => rfl), List.length_set]
    exact Nat.le_refl _)
  exact this
theorem row_type' {w : World} {base : Nat} {e : TypeId} {size n : Nat} {v : Value} {xs : List Value} (h : w.ownsRow base e size v n xs) {g : Nat} (hg : v.ownBlock = some g) : ∃ cur, w.heap[g]? = some (.cells cur e (0, 0)) := by
  rcases h.2 with ⟨rfl, _⟩ | ⟨g', cap, cur, rfl, _, hh, _⟩
  · cases hg
  · obtain rfl : g' = g := Option.some.inj hg
    exact ⟨cur, hh⟩
theorem row_not' {w : World} {base : Nat} {e : TypeId} {size n : Nat} {v : Value} {xs : List Value} (h : w.ownsRow base e size v n xs) {b : Nat} {A : Array Value} {T : TypeId} {fr : Nat × Nat} (hb : w.heap[b]? = some (.cells A T fr)) (ht : e ≠ T) : v.ownBlock ≠ some b := fun hg => by
  obtain ⟨cur, hc⟩ := row_type' h hg
  rw [hb] at hc
  injection hc with hc
  injection hc with _ h2
  exact ht h2.symm
/-- What an instruction in a row of the call's own holds. -/
structure MacC (w : World) (g k : Nat) (m : Mac) : Prop where
  c0 : w.cell? ⟨g, k * 5, none⟩ = some (.int .i64 m.op)
  c1 : w.cell? ⟨g, k * 5 + 1, none⟩ = some (.int .i64 m.dst)
  c2 : w.cell? ⟨g, k * 5 + 2, none⟩ = some (.int .i64 m.a)
  c3 : w.cell? ⟨g, k * 5 + 3, none⟩ = some (.int .i64 m.b)
  c4 : w.cell? ⟨g, k * 5 + 4, none⟩ = some (.int .i64 m.n)
  fz : ∀ j, w.frozen? ⟨g, j, none⟩ = false
  lg : g < w.heap.size
theorem ownM_at {w : World} {base g cap k N : Nat} {l : List Mac} (h : w.ownsRow base 36 5 (.slice (some ⟨g, 0, none⟩) N cap) N (l.flatMap Mac.cells)) (hN : l.length = N) (hk : k < N) : MacC w g k (atL l k) := by
  subst hN
  have e : l[k]? = some (atL l k) := by rw [atL_get hk, List.getElem?_eq_getElem hk]
  have c : ∀ j, j < 5 → w.cell? ⟨g, k * 5 + j, none⟩ = (atL l k).cells[j]? := fun j hj => by
    rw [← Rp.flat_get Mac.cells 5 (fun _ => rfl) l k j (atL l k) e hj]
    exact h.cellAt _ (by omega)
  refine ⟨c 0 (by omega), c 1 (by omega), c 2 (by omega), c 3 (by omega), c 4 (by omega), fun j => ?_, (h.lt g rfl).2⟩
  obtain ⟨cur, hh⟩ := row_type' h rfl
  simp [World.frozen?, hh]

/-- What is left when an instruction is taken out: the row, the window's variable. -/
structure Left (w : World) (base p : Nat) (l : List Mac) : Prop where
  row : ∃ g cap vl vr vm, w.heap[p]? = some (.cells #[.slice (some ⟨g, 0, none⟩) l.length cap, vl, vr, vm] 169 (0, 0)) ∧ w.ownsRow base 36 5 (.slice (some ⟨g, 0, none⟩) l.length cap) l.length (l.flatMap Mac.cells)
def decTo (i : Nat) (l : List Mac) (k : Nat) : List Mac := (l.take k).map (decM i) ++ l.drop k
theorem decTo_len (i : Nat) (l : List Mac) (k : Nat) : (decTo i l k).length = l.length := by
  unfold decTo
  rw [List.length_append, List.length_map, List.length_take, List.length_drop]
  omega
theorem decTo_at (i : Nat) {l : List Mac} {k : Nat} (h : k < l.length) : atL (decTo i l k) k = atL l k := by
  unfold decTo atL
  rw [List.getD_eq_getElem?_getD, List.getD_eq_getElem?_getD, List.getElem?_append_right (by rw [List.length_map, List.length_take]; omega), List.length_map, List.length_take, List.getElem?_drop, show k + (k - min k l.length) = k from by omega]
theorem decTo_step (i : Nat) {l : List Mac} {k : Nat} (h : k < l.length) : decTo i l (k + 1) = (decTo i l k).set k (decM i (atL l k)) := by
  unfold decTo
  have e1 : (l.take k).length = k := by rw [List.length_take]; omega
  rw [take_snoc' h, List.map_append, List.set_append_right _ _ (by rw [List.length_map]; omega), List.length_map, e1, Nat.sub_self, List.drop_eq_getElem_cons h, List.set_cons_zero, atL_get h]
  simp
theorem decTo_end (i : Nat) (l : List Mac) : decTo i l l.length = l.map (decM i) := by
  unfold decTo
  rw [List.take_length, List.drop_length, List.append_nil]
set_option maxRecDepth 100000 in
set_option maxHeartbeats 2000000 in
theorem out_calls (w : World) (base p g cap N i : Nat) (l : List Mac) (vl vr vm : Value) (hp : w.heap[p]? = some (.cells #[.slice (some ⟨g, 0, none⟩) N cap, vl, vr, vm] 169 (0, 0))) (hown : w.ownsRow base 36 5 (.slice (some ⟨g, 0, none⟩) N cap) N (l.flatMap Mac.cells)) (hN : l.length = N)
    (hbp : base ≤ p) (hi : i < N) (hmax : N ≤ 5000) (hj : ∀ m ∈ l, jumpsM m = true → 0 ≤ m.n ∧ m.n ≤ 5000) (R : Ending → World → Prop) (hR : ∀ w', Below base w w' → Left w' base p (goneL l i) → R (.returned (.bool true)) w') :
    Calls Tryd.prog 127 #[.pointer (some ⟨p, 0, none⟩), .int .i64 (i : Int)] w R := by
  have HR := Lib.hid hR
  have lp := blk_lt hp
  have hne : g ≠ p := fun e => row_not' hown hp (by decide) (by rw [e]; rfl)
  have hg := (hown.lt g rfl)
  have q0 : w.cell? ⟨p, 0, none⟩ = some (.slice (some ⟨g, 0, none⟩) N cap) := by rw [blk_cell' hp]; rfl
  have i0 : (0 : Int) ≤ (i : Int) := by omega
  have i1 : (i : Int) + 1 ≤ 9223372036854775807 := by omega
  have HN := Lib.hid hN
  clear hR
  go_enter Tryd.func127, Tryd.ntmps127
  go_wp2_with fail
  refine DeleteM_calls g N cap i l _ base hown hN.symm hi (by omega) _ (fun w1 hg1 hown1 => ?_)
  have hp1 := block_grown hg1 hp (by simpa using hne)
  have q1 : w1.cell? ⟨p, 0, none⟩ = some (.slice (some ⟨g, 0, none⟩) N cap) := by rw [blk_cell' hp1]; rfl
  have f1 : w1.frozen? ⟨p, 0, none⟩ = false := by simp [World.frozen?, hp1]
  have lp1 := blk_lt hp1
  have hb1 : Below base w w1 := grown_below hg1 hg.1 (Nat.le_trans hbp (Nat.le_of_lt lp))
  have hel : (l.eraseIdx i).length = N - 1 := by rw [List.length_eraseIdx, if_pos (by rw [HN.out]; exact hi), HN.out]
  have hej : ∀ m ∈ l.eraseIdx i, jumpsM m = true → 0 ≤ m.n ∧ m.n ≤ 5000 := fun m hm => hj m (List.mem_of_mem_eraseIdx hm)
  have hge : goneL l i = (l.eraseIdx i).map (decM i) := rfl
  have hgl : (goneL l i).length = N - 1 := by rw [goneL_len (by rw [HN.out]; exact hi), HN.out]
  have HR2 : Hid (∀ (w' : World), Below base w w' → Left w' base p (goneL l i) → R (.returned (.bool true)) w') := HR
  generalize l.eraseIdx i = L at *
  have Hel := Lib.hid hel
  have Hej := Lib.hid hej
  have Hge := Lib.hid hge
  have Hgl := Lib.hid hgl
  generalize goneL l i = GL at *
  have hp2 : (w1.setCell ⟨p, 0, none⟩ (.slice (some ⟨g, 0, none⟩) (N - 1) cap)).heap[p]? = some (.cells #[.slice (some ⟨g, 0, none⟩) (N - 1) cap, vl, vr, vm] 169 (0, 0)) := by rw [block_set hp1]; rfl
  have ho2 := own_setCell_other (p := ⟨p, 0, none⟩) hown1 (by intro e; exact hne (Option.some.inj e)) (.slice (some ⟨g, 0, none⟩) (N - 1) cap)
  have hb2 := hb1.setCell (p := ⟨p, 0, none⟩) hbp (.slice (some ⟨g, 0, none⟩) (N - 1) cap)
  have HP2 := Lib.hid hp2
  have HO2 := Lib.hid ho2
  have HB2 := Lib.hid hb2
  obtain ⟨n1, hn1⟩ : ∃ n1, n1 = N - 1 := ⟨_, rfl⟩
  rw [← hn1] at HP2 HO2 HB2 Hel Hgl
  have hnm : n1 ≤ 5000 := by omega
  rw [← hn1]
  clear i1 hp hown hg1 hown1 hp1 hb1 hel hej hge hgl hp2 ho2 hb2 hN HR hj q0 hn1 HN
  go_wp2_with fail
  go_loopg [23] n1 (fun gh s23 wr => ∃ k : Nat, k ≤ n1 ∧ gh = n1 - k ∧ s23 = .int .i64 (k : Int) ∧ Hid (wr.heap[p]? = some (.cells #[.slice (some ⟨g, 0, none⟩) n1 cap, vl, vr, vm] 169 (0, 0))) ∧ Hid (wr.ownsRow base 36 5 (.slice (some ⟨g, 0, none⟩) n1 cap) n1 ((decTo i L k).flatMap Mac.cells)) ∧ Hid (Below base w wr))
  case atStart => exact ⟨0, Nat.zero_le _, rfl, rfl, HP2, Lib.hid (by simpa [decTo] using HO2.out), HB2⟩
  case round =>
    obtain ⟨k, hk, rfl, rfl, HP, HO, HB⟩ := hrel
    have q0 : wr.cell? ⟨p, 0, none⟩ = some (.slice (some ⟨g, 0, none⟩) n1 cap) := by rw [blk_cell' HP.out]; rfl
    have lpr := blk_lt HP.out
    by_cases hlt : k < n1
    · have hC := ownM_at HO.out (by rw [decTo_len]; exact Hel.out) hlt
      have hkL : k < L.length := by rw [Hel.out]; exact hlt
      rw [decTo_at i hkL] at hC
      have hst := decTo_step i hkL
      have hjm := Hej.out (atL L k) (atL_in hkL)
      have hset : ∀ (W : World) (x : Int), W.ownsRow base 36 5 (.slice (some ⟨g, 0, none⟩) n1 cap) n1 ((decTo i L k).flatMap Mac.cells) → (W.setCell ⟨g, k * 5 + 4, none⟩ (.int .i64 x)).ownsRow base 36 5 (.slice (some ⟨g, 0, none⟩) n1 cap) n1 (((decTo i L k).set k (withN (atL L k) x)).flatMap Mac.cells) := fun W x hW => by
        have := ownM_put hW (by rw [decTo_len]; exact Hel.out) hlt x
        rwa [decTo_at i hkL] at this
      have hsame : (decTo i L k).set k (atL L k) = decTo i L k := by
        have := decTo_at i hkL
        rw [← this, atL_get (by rw [decTo_len]; exact hkL), List.set_getElem_self]
      generalize atL L k = m at *
      have d0 := hC.c0
      have d1 := hC.c1
      have d2 := hC.c2
      have d3 := hC.c3
      have d4 := hC.c4
      have dg := hC.lg
      have df := hC.fz (k * 5 + 4)
      have Hst := Lib.hid hst
      have Hset := Lib.hid hset
      have Hsame := Lib.hid hsame
      have k0 : (0 : Int) ≤ (k : Int) := by omega
      have k1 : (k : Int) < (n1 : Int) := by omega
      have hbz : base ≤ wr.heap.size := Nat.le_trans hbp (Nat.le_of_lt lpr)
      clear hC hst hset hsame
      go_wp2_with fail
      refine jumps_calls m _ _ (fun w5 hb5 => ?_)
      have hP5 := (hb5.block _ lpr).trans HP.out
      have q5 : w5.cell? ⟨p, 0, none⟩ = some (.slice (some ⟨g, 0, none⟩) n1 cap) := by rw [blk_cell' hP5]; rfl
      have e4 := (hb5.cell (p := ⟨g, k * 5 + 4, none⟩) dg).trans d4
      have ef := (hb5.frozen (p := ⟨g, k * 5 + 4, none⟩) dg).trans df
      have eg := Nat.lt_of_lt_of_le dg hb5.size
      have HP5 := Lib.hid hP5
      have lp5 := blk_lt hP5
      have HB5 := Lib.hid (HB.out.trans (hb5.mono hbz))
      have HO5 := Lib.hid (own_below HO.out hb5)
      clear hb5 hP5 q0 d0 d1 d2 d3 d4 dg df
      cases hj : jumpsM m
      · have Hst2 := Lib.hid (show decTo i L (k + 1) = decTo i L k by rw [Hst.out, show decM i m = m from by (unfold decM; rw [hj, if_neg (by simp)]), Hsame.out])
        clear hj hjm
        go_wp2
        go_roundg (n1 - (k + 1))
        case measure => omega
        case rel => exact ⟨k + 1, by omega, rfl, by go_num, HP5, Lib.hid (by rw [Hst2.out]; exact HO5.out), HB5⟩
      · obtain ⟨n0, n5⟩ := hjm hj
        by_cases hin : (i : Int) < m.n
        · have Hst2 := Lib.hid (show decTo i L (k + 1) = (decTo i L k).set k (withN m (m.n - 1)) by rw [Hst.out, show decM i m = withN m (m.n - 1) from by (unfold decM; rw [if_pos ⟨hj, hin⟩]; rfl)])
          clear hj
          go_wp2
          go_roundg (n1 - (k + 1))
          case measure => omega
          case rel => exact ⟨k + 1, by omega, rfl, by go_num, Lib.hid (blk_other HP5.out (Ne.symm hne) _), Lib.hid (by rw [Hst2.out]; exact Hset.out _ _ HO5.out), Lib.hid (HB5.out.setCell (p := ⟨g, k * 5 + 4, none⟩) hg.1 _)⟩
        · have Hst2 := Lib.hid (show decTo i L (k + 1) = decTo i L k by rw [Hst.out, show decM i m = m from by (unfold decM; rw [if_neg (fun e => hin e.2)]), Hsame.out])
          clear hj
          go_wp2
          go_roundg (n1 - (k + 1))
          case measure => omega
          case rel => exact ⟨k + 1, by omega, rfl, by go_num, HP5, Lib.hid (by rw [Hst2.out]; exact HO5.out), HB5⟩
    · obtain rfl : k = n1 := by omega
      have hfin : Left wr base p GL := by
        refine ⟨g, cap, vl, vr, vm, ?_, ?_⟩
        · rw [Hgl.out]; exact HP.out
        · rw [Hgl.out, Hge.out, ← decTo_end, Hel.out]; exact HO.out
      have H1 := Lib.hid (HR2.out wr HB.out hfin)
      clear hfin
      go_wp2
      exact H1.out
end Go.Proofs.YtemakpjickbmnaaDoor

/- Package peep: what stands beside; the rules of an instruction alone. -/
namespace Go.Proofs.YtemakpjickbmnaaDoor
open Go.RowKit
set_option linter.unusedSimpArgs false
set_option linter.unusedVariables false

/-- A window on a row of the call's own. -/
structure WinO (w : World) (l : List Mac) (p g cap base : Nat) (vl vr vm : Value) : Prop where
  win : Win w l p (.slice (some ⟨g, 0, none⟩) l.length cap) vl vr vm
  own : w.ownsRow base 36 5 (.slice (some ⟨g, 0, none⟩) l.length cap) l.length (l.flatMap Mac.cells)
  lo : base ≤ p
theorem WinO.below {w w' : World} {l : List Mac} {p g cap base : Nat} {vl vr vm : Value} (h : WinO w l p g cap base vl vr vm) (hb : Below w.heap.size w w') : WinO w' l p g cap base vl vr vm :=
  ⟨h.win.below hb, own_below h.own hb, h.lo⟩
theorem WinO.base_le {w : World} {l : List Mac} {p g cap base : Nat} {vl vr vm : Value} (h : WinO w l p g cap base vl vr vm) : base ≤ w.heap.size := Nat.le_trans h.lo (Nat.le_of_lt h.win.cells.lp)
theorem MacsOk.jumps5000 {l : List Mac} (h : MacsOk l) : ∀ m ∈ l, jumpsM m = true → 0 ≤ m.n ∧ m.n ≤ 5000 := fun m hm hj => by
  have h1 := jumps_op.1 hj
  have := (macF_ok (h.fine m hm)).jump h1.1 h1.2
  have := h.few
  omega
/-- An instruction of the window is taken out. -/
theorem outW_calls {w : World} {l : List Mac} {p g cap base : Nat} {vl vr vm : Value} (h : WinO w l p g cap base vl vr vm) (i : Nat) (hi : i < l.length) (R : Ending → World → Prop) (hR : ∀ w', Below base w w' → Left w' base p (goneL l i) → R (.returned (.bool true)) w') :
    Calls Tryd.prog 127 #[.pointer (some ⟨p, 0, none⟩), .int .i64 (i : Int)] w R :=
  out_calls w base p g cap l.length i l vl vr vm h.win.hp h.own rfl h.lo hi h.win.ok.few h.win.ok.jumps5000 R hR
theorem markL_at {l : List Mac} {k : Nat} (h : k < l.length) : atB (markL l) k = markB l k := atB_map h
theorem reachW_at {l : List Mac} {k : Nat} (h : k < l.length) : atB (reachW l) k = reachB l k := atB_map h
set_option maxHeartbeats 1000000 in
theorem beside_calls {w : World} {l : List Mac} {p g cap base : Nat} {vl vr vm : Value} (h : WinO w l p g cap base vl vr vm) (i : Nat) (hi : i < l.length) (R : Ending → World → Prop)
    (hT : besB l i = true → ∀ w', Below w.heap.size w w' → R (.returned (.tuple #[.pointer (some ⟨g, (i + 1) * 5, none⟩), .bool true])) w')
    (hF : besB l i = false → ∀ w', Below w.heap.size w w' → R (.returned (.tuple #[.pointer none, .bool false])) w') :
    Calls Tryd.prog 131 #[.pointer (some ⟨p, 0, none⟩), .int .i64 (i : Int)] w R := by
  have C := h.win.cells
  have c0 := C.c0
  have c3 := C.c3
  have lp := C.lp
  have M := ownM_at h.own rfl hi
  have m0 := M.c0
  have lg := M.lg
  have hfew := h.win.ok.few
  obtain ⟨A3, k3, rfl, hmx, hcap, hs⟩ := h.win.mark.cases_
  have hml : (markL l).length = l.length := by simp [markL]
  rw [hml] at c3 hcap hs
  have i0 : (0 : Int) ≤ (i : Int) := by omega
  have i9 : (i : Int) < (l.length : Int) := by omega
  have hcapc : l.length ≤ cap := by
    rcases h.own.2 with ⟨e, _⟩ | ⟨_, _, _, e, _, _, h1, _⟩
    · simp at e
    · injection e with _ _ e; omega
  unfold besB at hT hF
  generalize hop : (atL l i).op = op at *
  by_cases h1 : i + 1 < l.length
  · obtain ⟨b, off, rfl, hb, q⟩ := hs.bool_at (k := i + 1) (by rw [hml]; exact h1)
    rw [markL_at h1] at q
    have i1 : (i : Int) + 1 < (l.length : Int) := by omega
    have i2 : ¬ (l.length : Int) ≤ (i : Int) + 1 := by omega
    have i3 : (0 : Int) ≤ (i : Int) + 1 := by omega
    have i4 : ((i : Int) + 1).toNat = i + 1 := by omega
    have i5 : decide (l.length ≤ i + 1) = false := by simp; omega
    cases hk : markB l (i + 1)
    · rw [hk] at q
      by_cases e37 : op = 37
      · have j37 : (op == 37) = true := by simpa using e37
        have HF := Lib.hid (hF (by simp [e37]))
        clear hT hF hop C M hs e37 h
        go_enter Tryd.func131, Tryd.ntmps131
        go_wp2
        exact HF.out _ bl0
      · have j37 : (op == 37) = false := by simpa using e37
        by_cases e45 : op = 45
        · have j45 : (op == 45) = true := by simpa using e45
          have HF := Lib.hid (hF (by simp [e45]))
          clear hT hF hop C M hs e37 e45 h
          go_enter Tryd.func131, Tryd.ntmps131
          go_wp2
          exact HF.out _ bl0
        · have j45 : (op == 45) = false := by simpa using e45
          have HT := Lib.hid (hT (by simp [e37, e45, hk, h1]))
          clear hT hF hop C M hs e37 e45 h
          go_enter Tryd.func131, Tryd.ntmps131
          go_wp2
          exact HT.out _ bl0
    · rw [hk] at q
      have HF := Lib.hid (hF (by simp [hk]))
      clear hT hF hop C M hs h
      go_enter Tryd.func131, Tryd.ntmps131
      go_wp2
      exact HF.out _ bl0
  · have i1 : (l.length : Int) ≤ (i : Int) + 1 := by omega
    have i5 : decide (l.length ≤ i + 1) = true := by simp; omega
    have HF := Lib.hid (hF (by simp [h1]))
    clear hT hF hop C M hs h
    go_enter Tryd.func131, Tryd.ntmps131
    go_wp2
    exact HF.out _ bl0
set_option maxHeartbeats 400000 in
theorem asks_calls (w : World) (b off : Nat) (m : Mac) (r : Int) (hc0 : w.cell? ⟨b, off, none⟩ = some (.int .i64 m.op)) (hc2 : w.cell? ⟨b, off + 2, none⟩ = some (.int .i64 m.a)) (R : Ending → World → Prop) (hR : ∀ w', Below w.heap.size w w' → R (.returned (.bool (asksM m r))) w') :
    Calls Tryd.prog 132 #[.pointer (some ⟨b, off, none⟩), .int .i64 r] w R := by
  have hl := World.block_lt_of_cell? w _ hc0
  unfold asksM at hR
  have e2 : decide (m.a = r) = (m.a == r) := by rw [Bool.eq_iff_iff]; simp
  rw [e2] at hR
  by_cases e38 : m.op = 38
  · have j38 : (m.op == 38) = true := by simpa using e38
    rw [decide_eq_true (.inl e38), Bool.true_and] at hR
    have HR := Lib.hid hR
    clear hR e38 e2
    go_enter Tryd.func132, Tryd.ntmps132
    go_wp2
    exact HR.out _ bl0
  · have j38 : (m.op == 38) = false := by simpa using e38
    by_cases e39 : m.op = 39
    · have j39 : (m.op == 39) = true := by simpa using e39
      rw [decide_eq_true (.inr e39), Bool.true_and] at hR
      have HR := Lib.hid hR
      clear hR e38 e39 e2
      go_enter Tryd.func132, Tryd.ntmps132
      go_wp2
      exact HR.out _ bl0
    · have j39 : (m.op == 39) = false := by simpa using e39
      rw [decide_eq_false (fun h => h.elim e38 e39), Bool.false_and] at hR
      have HR := Lib.hid hR
      clear hR e38 e39 e2
      go_enter Tryd.func132, Tryd.ntmps132
      go_wp2
      exact HR.out _ bl0
set_option maxHeartbeats 1000000 in
theorem lost_calls {w : World} {l : List Mac} {p g cap base : Nat} {vl vr vm : Value} (h : WinO w l p g cap base vl vr vm) (i : Nat) (hi : i < l.length) (R : Ending → World → Prop)
    (hF : lostR l i = none → ∀ w', Below w.heap.size w w' → R (.returned (.bool false)) w')
    (hT : ∀ l', lostR l i = some l' → ∀ w', Below base w w' → Left w' base p l' → R (.returned (.bool true)) w') :
    Calls Tryd.prog 95 #[.pointer (some ⟨p, 0, none⟩), .int .i64 (i : Int)] w R := by
  have C := h.win.cells
  have c2 := C.c2
  have lp := C.lp
  obtain ⟨A3, k3, rfl, hmx, hcap, hs⟩ := h.win.reach.cases_
  have hml : (reachW l).length = l.length := by simp [reachW]
  obtain ⟨b, off, rfl, hb, q⟩ := hs.bool_at (k := i) (by rw [hml]; exact hi)
  rw [hml] at c2 hcap hs
  rw [reachW_at hi] at q
  have i0 : (0 : Int) ≤ (i : Int) := by omega
  have i9 : (i : Int) < (l.length : Int) := by omega
  have H := Lib.hid h
  unfold lostR at hF hT
  cases hr : reachB l i
  · rw [hr] at q
    simp only [hr, Bool.false_eq_true, if_false] at hT
    have HT := Lib.hid (hT _ rfl)
    clear hT hF hs C h
    go_enter Tryd.func95, Tryd.ntmps95
    go_wp2_with fail
    refine outW_calls H.out i hi _ (fun w1 hb1 hl1 => ?_)
    have H1 := Lib.hid (HT.out w1 hb1 hl1)
    clear hb1 hl1
    go_wp2
    exact H1.out
  · rw [hr] at q
    simp only [hr, if_true] at hF
    have HF := Lib.hid (hF trivial)
    clear hT hF hs C h
    go_enter Tryd.func95, Tryd.ntmps95
    go_wp2
    exact HF.out _ bl0
end Go.Proofs.YtemakpjickbmnaaDoor

/- Package peep: more rules of an instruction alone. -/
namespace Go.Proofs.YtemakpjickbmnaaDoor
open Go.RowKit
set_option linter.unusedSimpArgs false
set_option linter.unusedVariables false

set_option maxHeartbeats 1000000 in
theorem itself_calls {w : World} {l : List Mac} {p g cap base : Nat} {vl vr vm : Value} (h : WinO w l p g cap base vl vr vm) (i : Nat) (hi : i < l.length) (R : Ending → World → Prop)
    (hF : itselfR l i = none → ∀ w', Below w.heap.size w w' → R (.returned (.bool false)) w')
    (hT : ∀ l', itselfR l i = some l' → ∀ w', Below base w w' → Left w' base p l' → R (.returned (.bool true)) w') :
    Calls Tryd.prog 96 #[.pointer (some ⟨p, 0, none⟩), .int .i64 (i : Int)] w R := by
  have C := h.win.cells
  have c0 := C.c0
  have lp := C.lp
  have M := ownM_at h.own rfl hi
  have m0 := M.c0
  have m1 := M.c1
  have m2 := M.c2
  have m3 := M.c3
  have m4 := M.c4
  have lg := M.lg
  have i0 : (0 : Int) ≤ (i : Int) := by omega
  have i9 : (i : Int) < (l.length : Int) := by omega
  have hbl := h.base_le
  have H := Lib.hid h
  unfold itselfR at hF hT
  generalize atL l i = m at *
  clear C M h
  by_cases e2 : m.op = 2
  · have j2 : (m.op == 2) = true := by simpa using e2
    by_cases ea : m.dst = m.a
    · have ja : (m.dst == m.a) = true := by simpa using ea
      have HT := Lib.hid (hT _ (by rw [if_pos ⟨e2, ea⟩]))
      clear hT hF e2 ea
      go_enter Tryd.func96, Tryd.ntmps96
      go_wp2_with fail
      refine outW_calls (H.out.below (by exact bl0)) i hi _ (fun w1 hb1 hl1 => ?_)
      have H1 := Lib.hid (HT.out w1 (((by exact bl0 : Below w.heap.size w _).mono hbl).trans hb1) hl1)
      clear hb1 hl1
      go_wp2
      exact H1.out
    · have ja : (m.dst == m.a) = false := by simpa using ea
      have HF := Lib.hid (hF (by rw [if_neg (fun h => ea h.2)]))
      clear hT hF e2 ea
      go_enter Tryd.func96, Tryd.ntmps96
      go_wp2
      exact HF.out _ bl0
  · have j2 : (m.op == 2) = false := by simpa using e2
    have HF := Lib.hid (hF (by rw [if_neg (fun h => e2 h.1)]))
    clear hT hF e2
    go_enter Tryd.func96, Tryd.ntmps96
    go_wp2
    exact HF.out _ bl0
set_option maxHeartbeats 1000000 in
theorem short_calls {w : World} {l : List Mac} {p g cap base : Nat} {vl vr vm : Value} (h : WinO w l p g cap base vl vr vm) (i : Nat) (hi : i < l.length) (R : Ending → World → Prop)
    (hF : shortR l i = none → ∀ w', Below w.heap.size w w' → R (.returned (.bool false)) w')
    (hT : ∀ l', shortR l i = some l' → ∀ w', Below base w w' → Left w' base p l' → R (.returned (.bool true)) w') :
    Calls Tryd.prog 97 #[.pointer (some ⟨p, 0, none⟩), .int .i64 (i : Int)] w R := by
  have C := h.win.cells
  have c0 := C.c0
  have lp := C.lp
  have M := ownM_at h.own rfl hi
  have m0 := M.c0
  have m1 := M.c1
  have m2 := M.c2
  have m3 := M.c3
  have m4 := M.c4
  have lg := M.lg
  have i0 : (0 : Int) ≤ (i : Int) := by omega
  have i9 : (i : Int) < (l.length : Int) := by omega
  have hfew := h.win.ok.few
  have hbl := h.base_le
  have H := Lib.hid h
  unfold shortR at hF hT
  generalize atL l i = m at *
  clear C M h
  go_enter Tryd.func97, Tryd.ntmps97
  go_wp2_with fail
  refine jumps_calls m _ _ (fun w5 hb5 => ?_)
  have d0 := (hb5.cell (p := ⟨p, 0, none⟩) lp).trans c0
  have d4 := (hb5.cell (p := ⟨g, i * 5 + 4, none⟩) lg).trans m4
  have lp5 := Nat.lt_of_lt_of_le lp hb5.size
  have lg5 := Nat.lt_of_lt_of_le lg hb5.size
  have Hb5 := Lib.hid hb5
  clear hb5 m0 m1 m2 m3 m4 c0
  cases hj : jumpsM m
  · have HF := Lib.hid (hF (by rw [if_neg (fun h => by rw [hj] at h; cases h.1)]))
    clear hT hF hj
    go_wp2
    exact HF.out _ Hb5.out
  · by_cases en : m.n = (i : Int) + 1
    · have jn : (m.n == (i : Int) + 1) = true := by simpa using en
      have HT := Lib.hid (hT _ (by rw [if_pos ⟨hj, en⟩]))
      clear hT hF hj en
      go_wp2_with fail
      refine outW_calls (H.out.below Hb5.out) i hi _ (fun w1 hb1 hl1 => ?_)
      have H1 := Lib.hid (HT.out w1 ((Hb5.out.mono hbl).trans hb1) hl1)
      clear hb1 hl1
      go_wp2
      exact H1.out
    · have jn : (m.n == (i : Int) + 1) = false := by simpa using en
      have HF := Lib.hid (hF (by rw [if_neg (fun h => en h.2)]))
      clear hT hF hj en
      go_wp2
      exact HF.out _ Hb5.out
set_option maxHeartbeats 1000000 in
theorem vain_calls {w : World} {l : List Mac} {p g cap base : Nat} {vl vr vm : Value} (h : WinO w l p g cap base vl vr vm) (i : Nat) (hi : i < l.length) (R : Ending → World → Prop)
    (hF : vainR l i = none → ∀ w', Below w.heap.size w w' → R (.returned (.bool false)) w')
    (hT : ∀ l', vainR l i = some l' → ∀ w', Below base w w' → Left w' base p l' → R (.returned (.bool true)) w') :
    Calls Tryd.prog 99 #[.pointer (some ⟨p, 0, none⟩), .int .i64 (i : Int)] w R := by
  have C := h.win.cells
  have c0 := C.c0
  have lp := C.lp
  have M := ownM_at h.own rfl hi
  have m0 := M.c0
  have m1 := M.c1
  have m2 := M.c2
  have m3 := M.c3
  have m4 := M.c4
  have lg := M.lg
  have hm := h.win.ok.at_ hi
  have i0 : (0 : Int) ≤ (i : Int) := by omega
  have i9 : (i : Int) < (l.length : Int) := by omega
  have hbl := h.base_le
  have H := Lib.hid h
  unfold vainR at hF hT
  generalize atL l i = m at *
  obtain ⟨r, hr⟩ : ∃ r : Nat, m.dst = (r : Int) := ⟨m.dst.toNat, by have := hm.dst0; omega⟩
  have hr16 : r < 16 := by have := hm.dst1; omega
  rw [hr] at hF hT
  simp only [Int.toNat_natCast] at hF hT
  have Hr := Lib.hid hr
  clear C M h hm hr
  go_enter Tryd.func99, Tryd.ntmps99
  go_wp2_with fail
  refine quietM_calls m _ _ (fun w5 hb5 => ?_)
  have p1 : w5.cell? ⟨w.heap.size, 1, none⟩ = some (.int .i64 (r : Int)) := by rw [hb5.cell (by simp), ← Hr.out]; simp
  have hz5 : w.heap.size < w5.heap.size := by have := hb5.size; simp at this; omega
  have Hb5 := Lib.hid ((by exact bl0 : Below w.heap.size w (w.alloc (Obj.cells #[.int .i64 m.op, .int .i64 m.dst, .int .i64 m.a, .int .i64 m.b, .int .i64 m.n] 36))).trans (hb5.mono (by simp)))
  clear hb5 m0 m1 m2 m3 m4 c0
  cases hq : quietM m
  · have HF := Lib.hid (hF (by rw [if_neg (fun h => by rw [hq] at h; cases h.1)]))
    clear hT hF hq
    go_wp2
    exact HF.out _ Hb5.out
  · go_wp2_with fail
    refine behind_calls (H.out.win.below Hb5.out) i r hi hr16 _ (fun w6 hb6 => ?_)
    have Hb6 := Lib.hid (Hb5.out.trans (hb6.mono Hb5.out.size))
    clear hb6
    cases hb : behB l i r
    · have HT := Lib.hid (hT _ (by rw [if_pos ⟨hq, hb⟩]))
      clear hT hF hq hb
      go_wp2_with fail
      refine outW_calls (H.out.below Hb6.out) i hi _ (fun w1 hb1 hl1 => ?_)
      have H1 := Lib.hid (HT.out w1 ((Hb6.out.mono hbl).trans hb1) hl1)
      clear hb1 hl1
      go_wp2
      exact H1.out
    · have HF := Lib.hid (hF (by rw [if_neg (fun h => by rw [hb] at h; cases h.2)]))
      clear hT hF hq hb
      go_wp2
      exact HF.out _ Hb6.out
/-- What a function that answers a bool of an instruction, with what it captures, has to do in worlds behind w. -/
def AsksM1 (f : FuncId) (c1 : Value) (p : Mac → Bool) (w : World) : Prop :=
  Enters Tryd.prog f ∧ ∀ (x : Mac) (W : World) (R : Ending → World → Prop), Below w.heap.size w W → (∀ W', Below W.heap.size W W' → R (.returned (.bool (p x))) W') → Calls Tryd.prog f #[.agg #[.int .i64 x.op, .int .i64 x.dst, .int .i64 x.a, .int .i64 x.b, .int .i64 x.n], c1] W R
theorem anyM_take_snoc {p : Mac → Bool} {xs : List Mac} {k : Nat} (h : k < xs.length) : (xs.take (k + 1)).any p = ((xs.take k).any p || p (atL xs k)) := by
  rw [take_snoc' h, List.any_append, atL_get h]
  simp
set_option maxHeartbeats 400000 in
theorem IndexFuncM1_calls (f : FuncId) (c1 : Value) (p : Mac → Bool) (v : Value) (xs : List Mac) (w : World) (h : rpMac.SL w w.heap.size xs v) (hf : AsksM1 f c1 p w) (R : Ending → World → Prop)
    (hR : ∀ w' (r : Int), Below w.heap.size w w' → decide (0 ≤ r) = xs.any p → R (.returned (.int .i64 r)) w') :
    Calls Tryd.prog 122 #[v, .func (.func f) #[] #[c1]] w R := by
  obtain ⟨hen, hf⟩ := hf
  have hcf := hen.run
  obtain ⟨A, n, rfl, hm, _, h⟩ := h.cases_
  have Hs := Lib.hid h
  have Hf := Lib.hid hf
  have HR := Lib.hid hR
  clear h hf hR
  go_enter Tryd.func122, Tryd.ntmps122
  go_wp2
  go_loopg [8] xs.length (fun gh i wr => ∃ k : Nat, k ≤ xs.length ∧ gh = xs.length - k ∧ i = .int .i64 k ∧ (xs.take k).any p = false ∧ Below w.heap.size w wr)
  case atStart => exact ⟨0, Nat.zero_le _, rfl, rfl, rfl, Below.refl _ _⟩
  case round =>
    obtain ⟨k, hk, rfl, rfl, ht, hbel⟩ := hrel
    have Ht := Lib.hid ht
    have Hb := Lib.hid hbel
    have hz := hbel.size
    clear ht
    by_cases hlt : k < xs.length
    · obtain ⟨b, off, m, rfl, hb, e, q0, q1, q2, q3, q4⟩ := Hs.out.mac_at hlt
      have em : atL xs k = m := by
        rw [atL_get hlt]
        rw [List.getElem?_eq_getElem hlt] at e
        exact Option.some.inj e
      have p0 := (hbel.cell (p := ⟨b, off + k * 5, none⟩) hb).trans q0
      have p1 := (hbel.cell (p := ⟨b, off + k * 5 + 1, none⟩) hb).trans q1
      have p2 := (hbel.cell (p := ⟨b, off + k * 5 + 2, none⟩) hb).trans q2
      have p3 := (hbel.cell (p := ⟨b, off + k * 5 + 3, none⟩) hb).trans q3
      have p4 := (hbel.cell (p := ⟨b, off + k * 5 + 4, none⟩) hb).trans q4
      have hst := anyM_take_snoc (p := p) hlt
      rw [em] at hst
      have Hst := Lib.hid hst
      have Hx := Lib.hid (Hf.out m)
      have i1 : (k : Int) < (xs.length : Int) := by omega
      have i2 : (0 : Int) ≤ (k : Int) := by omega
      clear q0 q1 q2 q3 q4 hbel e em hst
      go_wp2_with fail
      refine Hx.out _ _ Hb.out ?_
      intro w1 hb1
      have Hb1 := Lib.hid (Hb.out.trans (hb1.mono hz))
      clear hb1
      cases hp : p m
      · have Hst2 := Lib.hid (show (xs.take (k + 1)).any p = false by rw [Hst.out, Ht.out, hp]; rfl)
        clear hp
        go_wp2
        go_roundg (xs.length - (k + 1))
        case measure => omega
        case rel => exact ⟨k + 1, by omega, rfl, by go_num, Hst2.out, Hb1.out⟩
      · have hany : xs.any p = true := by
          have h1 : (xs.take (k + 1)).any p = true := by rw [Hst.out, hp]; simp
          rw [List.any_eq_true] at h1 ⊢
          obtain ⟨y, hy, h2⟩ := h1
          exact ⟨y, List.mem_of_mem_take hy, h2⟩
        have H1 := Lib.hid (HR.out w1 (k : Int) Hb1.out (by rw [hany]; simp))
        clear hany hp
        go_wp2
        exact H1.out
    · obtain rfl : k = xs.length := by omega
      rw [List.take_length] at Ht
      have H1 := Lib.hid (HR.out wr (-1) Hb.out (by rw [Ht.out]; rfl))
      go_wp2
      exact H1.out
set_option maxHeartbeats 400000 in
theorem ContainsFuncM1_calls (f : FuncId) (c1 : Value) (p : Mac → Bool) (v : Value) (xs : List Mac) (w : World) (h : rpMac.SL w w.heap.size xs v) (hf : AsksM1 f c1 p w) (R : Ending → World → Prop)
    (hR : ∀ w', Below w.heap.size w w' → R (.returned (.bool (xs.any p))) w') :
    Calls Tryd.prog 87 #[v, .func (.func f) #[] #[c1]] w R := by
  have HR := Lib.hid hR
  clear hR
  go_enter Tryd.func87, Tryd.ntmps87
  go_wp2_with fail
  refine IndexFuncM1_calls f c1 p v xs _ h hf _ (fun w1 r hb1 hr => ?_)
  have Hr := Lib.hid hr
  have H1 := Lib.hid (HR.out w1 hb1)
  clear hr hb1 h hf
  go_wp2
  rw [Hr.out]
  exact H1.out
set_option maxHeartbeats 400000 in
theorem unread1_calls (x : Mac) (n : Int) (G : Nat) (w : World) (hG : w.cell? ⟨G, 4, none⟩ = some (.int .i64 n)) (R : Ending → World → Prop) (hR : ∀ w', Below w.heap.size w w' → R (.returned (.bool (decide (x.op = 35) && decide (x.n = n)))) w') :
    Calls Tryd.prog 130 #[.agg #[.int .i64 x.op, .int .i64 x.dst, .int .i64 x.a, .int .i64 x.b, .int .i64 x.n], .pointer (some ⟨G, 0, none⟩)] w R := by
  have hl := World.block_lt_of_cell? w _ hG
  have e2 : decide (x.n = n) = (x.n == n) := by rw [Bool.eq_iff_iff]; simp
  rw [e2] at hR
  by_cases h35 : x.op = 35
  · have j35 : (x.op == 35) = true := by simpa using h35
    rw [decide_eq_true h35, Bool.true_and] at hR
    have HR := Lib.hid hR
    clear hR h35 e2
    go_enter Tryd.func130, Tryd.ntmps130
    go_wp2
    exact HR.out _ bl0
  · have j35 : (x.op == 35) = false := by simpa using h35
    rw [decide_eq_false h35, Bool.false_and] at hR
    have HR := Lib.hid hR
    clear hR h35 e2
    go_enter Tryd.func130, Tryd.ntmps130
    go_wp2
    exact HR.out _ bl0
set_option maxHeartbeats 1000000 in
theorem unread_calls {w : World} {l : List Mac} {p g cap base : Nat} {vl vr vm : Value} (h : WinO w l p g cap base vl vr vm) (i : Nat) (hi : i < l.length) (R : Ending → World → Prop)
    (hF : unreadR l i = none → ∀ w', Below w.heap.size w w' → R (.returned (.bool false)) w')
    (hT : ∀ l', unreadR l i = some l' → ∀ w', Below base w w' → Left w' base p l' → R (.returned (.bool true)) w') :
    Calls Tryd.prog 100 #[.pointer (some ⟨p, 0, none⟩), .int .i64 (i : Int)] w R := by
  have C := h.win.cells
  have c0 := C.c0
  have lp := C.lp
  have M := ownM_at h.own rfl hi
  have m0 := M.c0
  have m1 := M.c1
  have m2 := M.c2
  have m3 := M.c3
  have m4 := M.c4
  have lg := M.lg
  have i0 : (0 : Int) ≤ (i : Int) := by omega
  have i9 : (i : Int) < (l.length : Int) := by omega
  have hbl := h.base_le
  have H := Lib.hid h
  unfold unreadR at hF hT
  generalize atL l i = m at *
  have hen : Enters Tryd.prog 130 := ⟨_, Tryd.func130, by kernel_rfl, rfl⟩
  clear C M h
  by_cases e36 : m.op = 36
  · have j36 : (m.op == 36) = true := by simpa using e36
    have E36 := Lib.hid e36
    clear e36
    go_enter Tryd.func100, Tryd.ntmps100
    go_wp2_with fail
    have hbA : Below w.heap.size w (w.alloc (Obj.cells #[.int .i64 m.op, .int .i64 m.dst, .int .i64 m.a, .int .i64 m.b, .int .i64 m.n] 36)) := bl0
    have hG : (w.alloc (Obj.cells #[.int .i64 m.op, .int .i64 m.dst, .int .i64 m.a, .int .i64 m.b, .int .i64 m.n] 36)).cell? ⟨w.heap.size, 4, none⟩ = some (.int .i64 m.n) := by simp
    refine ContainsFuncM1_calls 130 (.pointer (some ⟨w.heap.size, 0, none⟩)) (fun o => decide (o.op = 35) && decide (o.n = m.n)) _ l _ (H.out.win.below hbA).code ⟨hen, fun x W R' hbW hR' => unread1_calls x m.n w.heap.size W ((hbW.cell (by simp)).trans hG) R' hR'⟩ _ (fun w6 hb6 => ?_)
    have Hb6 := Lib.hid (hbA.trans (hb6.mono (by simp)))
    have hge : (l.any fun o => decide (o.op = 35) && decide (o.n = m.n)) = getB l m.n := rfl
    rw [hge]
    clear hb6 hG hbA hge m0 m1 m2 m3 m4 c0
    cases hb : getB l m.n
    · have HT := Lib.hid (hT _ (by rw [if_pos ⟨E36.out, hb⟩]))
      clear hT hF hb
      go_wp2_with fail
      refine outW_calls (H.out.below Hb6.out) i hi _ (fun w1 hb1 hl1 => ?_)
      have H1 := Lib.hid (HT.out w1 ((Hb6.out.mono hbl).trans hb1) hl1)
      clear hb1 hl1
      go_wp2
      exact H1.out
    · have HF := Lib.hid (hF (by rw [if_neg (fun h => by rw [hb] at h; cases h.2)]))
      clear hT hF hb
      go_wp2
      exact HF.out _ Hb6.out
  · have j36 : (m.op == 36) = false := by simpa using e36
    have HF := Lib.hid (hF (by rw [if_neg (fun h => e36 h.1)]))
    clear hT hF e36
    go_enter Tryd.func100, Tryd.ntmps100
    go_wp2
    exact HF.out _ bl0
end Go.Proofs.YtemakpjickbmnaaDoor
