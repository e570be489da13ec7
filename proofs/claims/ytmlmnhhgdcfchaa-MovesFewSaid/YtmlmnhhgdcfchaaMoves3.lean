/- Moves: what the library's functions that write into a slice of moves come to. -/
import Derived.Test.YtmlmnhhgdcfchaaLib
import Derived.Test.YtmlmnhhgdcfchaaRows
import Derived.IntWalk
import Derived.Test.YtmlmnhhgdcfchaaLib3
import Derived.Test.YtmlmnhhgdcfchaaMoves1
namespace Go.Proofs.Ytmlmnhhgdcfchaa
open Go.RowKit
set_option linter.unusedSimpArgs false
set_option linter.unusedVariables false

theorem Move.cells_length (m : Move) : m.cells.length = 2 := rfl
theorem flat_one (xs : List Move) : ∀ u ∈ xs.flatMap Move.cells, u.oneCell' = true := by
  intro u hu
  obtain ⟨m, _, hm⟩ := List.mem_flatMap.1 hu
  simp [Move.cells] at hm
  rcases hm with rfl | rfl <;> rfl

/-- The cells of a slice that came in, as a row that is appended from. -/
theorem SLMove_news {w : World} {B : Nat} {xs : List Move} {b off n c : Nat} (h : rpMove.SL w B xs (.slice (some ⟨b, off, none⟩) n c)) : ∀ j u, (xs.flatMap Move.cells)[j]? = some u → w.cell? ((⟨b, off, none⟩ : Addr).add j) = some u := by
  intro j u hj
  have hlt : j < xs.length * 2 := by rw [← flat_length Move.cells 2 Move.cells_length]; exact (List.getElem?_eq_some_iff.1 hj).1
  have hk : j / 2 < xs.length := by omega
  obtain ⟨b', off', cs, hA, _, hr, hcs⟩ := h.at_ (List.getElem?_eq_getElem hk)
  injection hA with hA
  injection hA with h1 h2
  subst h1 h2
  rw [rpMove_rep] at hr
  subst hr
  have hg := Rp.flat_get Move.cells 2 Move.cells_length xs (j / 2) (j % 2) _ (List.getElem?_eq_getElem hk) (by omega)
  rw [show j / 2 * 2 + j % 2 = j from by omega, hj] at hg
  have := hcs (j % 2) u hg.symm
  rw [show off + j / 2 * rpMove.size + j % 2 = off + j from by show off + j / 2 * 2 + j % 2 = off + j; omega] at this
  rw [← this]
  unfold Addr.add
  by_cases h0 : j = 0 <;> simp [h0]

set_option maxHeartbeats 400000 in
theorem Clone_calls (v : Value) (xs : List Move) (w : World) (h : rpMove.SL w w.heap.size xs v) (hn : xs.length ≤ 4294967296) (R : Ending → World → Prop)
    (hR : ∀ w' v', Below w.heap.size w w' → w'.ownsRow w.heap.size 47 2 v' xs.length (xs.flatMap Move.cells) → R (.returned v') w') :
    Calls Try.prog 34 #[v] w R := by
  obtain ⟨A, c, rfl, hm, hcap, h⟩ := h.cases_
  obtain ⟨i0, hi, hz0, hz1, hz2⟩ := info_parts info_Move
  have hnil := fun w => Lib.run_eql_slice_nil (P := Try.prog) w 34 47 A xs.length c 0 0 Try.underlying34
  cases A with
  | none =>
    have hx : xs = [] := by
      rcases Nat.eq_zero_or_pos xs.length with h0 | hp
      · exact List.eq_nil_of_length_eq_zero h0
      · obtain ⟨b, off, m, hA, _⟩ := h.move_at hp
        cases hA
    subst hx
    clear hnil
    have hnil := fun w => Lib.run_eql_slice_nil (P := Try.prog) w 34 47 none 0 c 0 0 Try.underlying34
    go_enter Try.func34, Try.ntmps34
    go_wp2
    exact hR _ _ (Below.refl _ _) (World.ownsRow_nil _ _ _ _)
  | some a =>
    have hnews : ∀ j u, (xs.flatMap Move.cells)[j]? = some u → w.cell? (a.add j) = some u := by
      rcases Nat.eq_zero_or_pos xs.length with h0 | hp
      · intro j u hj
        rw [List.eq_nil_of_length_eq_zero h0] at hj
        simp at hj
      · obtain ⟨b, off, m, hA, _⟩ := h.move_at hp
        injection hA with hA
        subst hA
        exact SLMove_news h
    have hlt : ∀ j u, (xs.flatMap Move.cells)[j]? = some u → a.block < w.heap.size := fun j u hj => by
      have := World.block_lt_of_cell? w _ (hnews j u hj)
      have e : (a.add j).block = a.block := by unfold Addr.add; split <;> rfl
      rwa [e] at this
    have Hn := Lib.hid hnews
    have Hl := Lib.hid hlt
    clear hnews hlt h
    go_enter Try.func34, Try.ntmps34
    go_wp2_with (at_builtin; refine wpList_append_own _ rfl _ _ 34 rfl w.heap.size 47 i0 _ 2 16 Try.underlying34 hi hz0 hz1 hz2 rfl (by decide) (.slice (some ⟨w.heap.size, 0, none⟩) 0 0) 0 [] rfl ?_ a xs.length c (xs.flatMap Move.cells) rfl (flat_length Move.cells 2 Move.cells_length xs) ?_ ?_ ?_ ?_ ?_ ?_)
    · exact ⟨rfl, .inr ⟨w.heap.size, 0, #[], rfl, Nat.le_refl _, heap_alloc_new w _, Nat.le_refl _, Nat.zero_le _, rfl, rfl⟩⟩
    · intro j u hj
      have hb := Hl.out j u hj
      have e : (a.add j).block = a.block := by unfold Addr.add; split <;> rfl
      rw [World.cell?_alloc_lt _ _ _ (by rw [e]; exact hb)]
      exact Hn.out j u hj
    · exact flat_one xs
    · unfold maxLen; omega
    · omega
    · simp
    · intro v' w1 hown hgrow _
      go_wp2
      refine hR _ _ ((Below.refl _ _).alloc (Nat.le_refl _) _ |>.grown hgrow (by simp) (fun k hk => by simp [Value.ownBlock] at hk; omega)) ?_
      simpa using hown

theorem zero_Move (w : World) : (zeroValue 47).run Try.prog w = .ok (.agg #[.int .i64 0, .int .i64 0]) w := by kernel_rfl

set_option maxHeartbeats 400000 in
set_option maxRecDepth 100000 in
theorem Delete_calls (g n cap i : Nat) (xs : List Move) (w : World) (base : Nat) (hown : w.ownsRow base 47 2 (.slice (some ⟨g, 0, none⟩) n cap) n (xs.flatMap Move.cells)) (hn : n = xs.length) (hi : i < n) (hmax : n ≤ 4294967296) (R : Ending → World → Prop)
    (hR : ∀ w', w.grownBy w' (some g) → w'.ownsRow base 47 2 (.slice (some ⟨g, 0, none⟩) (n - 1) cap) (n - 1) ((xs.eraseIdx i).flatMap Move.cells) → R (.returned (.slice (some ⟨g, 0, none⟩) (n - 1) cap)) w') :
    Calls Try.prog 39 #[.slice (some ⟨g, 0, none⟩) n cap, .int .i64 (i : Int), .int .i64 ((i : Int) + 1)] w R := by
  obtain ⟨i0, hi0, hz0, hz1, hz2⟩ := info_parts info_Move
  have hnc : n ≤ cap ∧ cap ≤ 9223372036854775807 := by
    rcases hown.2 with ⟨h, _⟩ | ⟨_, _, _, h, _, _, h1, h2, _, _⟩
    · simp at h
    · injection h with _ _ h
      subst h
      exact ⟨h1, h2⟩
  obtain ⟨hcap, hmx⟩ := hnc
  have hfl : (xs.flatMap Move.cells).length = n * 2 := hown.1
  -- the cells that are moved to the left
  obtain ⟨A, hA, hnews⟩ : ∃ A : Addr, (if cap = i + 1 then some (⟨g, 0, none⟩ : Addr) else some ⟨g, (i + 1) * 2, none⟩) = some A ∧ Hid (∀ j u, ((xs.flatMap Move.cells).drop ((i + 1) * 2))[j]? = some u → w.drew.cell? (A.add j) = some u) := by
    by_cases h : cap = i + 1
    · refine ⟨⟨g, 0, none⟩, by simp [h], fun j u hu => ?_⟩
      rw [List.drop_of_length_le (by omega)] at hu
      simp at hu
    · refine ⟨⟨g, (i + 1) * 2, none⟩, by simp [h], fun j u hu => ?_⟩
      have hj : (i + 1) * 2 + j < n * 2 := by
        have := (List.getElem?_eq_some_iff.1 hu).1
        rw [List.length_drop, hfl] at this
        omega
      rw [Addr.add_lit]
      rw [List.getElem?_drop] at hu
      exact (hown.cellAt _ hj).trans hu
  have s1 : Hid (((xs.flatMap Move.cells).drop ((i + 1) * 2)).length = (n - (i + 1)) * 2) := by show _ = _; rw [List.length_drop, hfl]; omega
  have s2 : Hid (∀ u ∈ (xs.flatMap Move.cells).drop ((i + 1) * 2), u.oneCell' = true) := fun u hu => flat_one xs u (List.mem_of_mem_drop hu)
  have s3 : Hid (∀ j, j < ((xs.flatMap Move.cells).drop ((i + 1) * 2)).length → (w.drew.cell? ⟨g, 0 + i * 2 + j, none⟩).isSome = true ∧ w.drew.frozen? ⟨g, 0 + i * 2 + j, none⟩ = false) := by
    intro j hj
    rw [s1.out] at hj
    exact own_there hown _ (by omega)
  have hic : i ≤ cap := by omega
  have hwr : IntKind.i64.wrap ((i : Int) + 1) = (i : Int) + 1 := by rw [IntKind.wrap_i64]; omega
  have hp0 : (0 : Int) ≤ (i : Int) + 1 := by omega
  have hp1 : (i : Int) + 1 ≤ (n : Int) := by omega
  have hp2 : ((i : Int) + 1).toNat = i + 1 := by omega
  have hne : ((i : Int) == (i : Int) + 1) = false := by simp; omega
  have Hw := Lib.hid hown
  clear hown hfl
  have Hn := Lib.hid hn
  clear hn
  go_enter Try.func39, Try.ntmps39
  go_wp2_with fail
  go_region_law (refine step_append_room rfl (.tmp 22) (.tmp 25) 34 rfl 47 i0 2 Try.underlying34 hi0 hz1 g 0 i cap (by simp [Act.eval, Act.put]) A (n - (i + 1)) (cap - (i + 1)) ((xs.flatMap Move.cells).drop ((i + 1) * 2)) (by simp [Act.eval, Act.put]) s1.out hnews.out s2.out (by omega) s3.out ?_)
  rw [show i + (n - (i + 1)) = n - 1 from by omega]
  have hown1 : (w.drew.setCells g (i * 2) ((xs.flatMap Move.cells).drop ((i + 1) * 2))).ownsRow base 47 2 (.slice (some ⟨g, 0, none⟩) (n - 1) cap) (n - 1) ((xs.eraseIdx i).flatMap Move.cells) := by
    refine own_setCells (w := w.drew) Hw.out (by rw [s1.out]; omega) (by omega) _ ?_
    rw [flat_erase Move.cells 2 Move.cells_length, List.take_append_of_le_length, List.take_of_length_le]
    · rw [flat_length Move.cells 2 Move.cells_length, List.length_eraseIdx, if_pos (by rw [← Hn.out]; exact hi), ← Hn.out]
      exact Nat.le_refl _
    · rw [flat_length Move.cells 2 Move.cells_length, List.length_eraseIdx, if_pos (by rw [← Hn.out]; exact hi), ← Hn.out]
      exact Nat.le_refl _
  have hg1 : w.grownBy (w.drew.setCells g (i * 2) ((xs.flatMap Move.cells).drop ((i + 1) * 2))) (some g) := grown_setCells _ _ _ ⟨rfl, rfl, rfl, Nat.le_refl _, fun _ _ _ => rfl⟩
  generalize w.drew.setCells g (i * 2) ((xs.flatMap Move.cells).drop ((i + 1) * 2)) = w1 at *
  clear s1 s2 s3 hnews hA Hw
  have hp3 : (0 : Int) ≤ ((n - 1 : Nat) : Int) := by omega
  have hp4 : ((n - 1 : Nat) : Int) ≤ (n : Int) := by omega
  have hp5 : (n : Int) ≤ (cap : Int) := by omega
  go_wp2_with (with_reducible refine wpList_clear_own rfl (.tmp 31) 34 rfl 47 _ Try.underlying34 zero_Move rfl ?_ hown1 ((n - 1) * 2) (n - (n - 1)) (cap - (n - 1)) ?_ ?_ ?_ ?_)
  · intro u hu
    simp [Value.cells] at hu
    subst hu
    rfl
  · rfl
  · omega
  · exact fun _ => rfl
  · intro w2 hown2 hg2
    go_wp2
    exact hR _ (hg1.trans hg2) hown2

/-- What a function that answers a bool of a move, and captures nothing, has to do. -/
def Asks0 (f : FuncId) (p : Move → Bool) : Prop :=
  Enters Try.prog f ∧ ∀ (x : Move) (W : World) (R : Ending → World → Prop), (∀ W', Below W.heap.size W W' → R (.returned (.bool (p x))) W') → Calls Try.prog f #[.agg #[.int .i64 x.to, .int .i64 x.src]] W R

set_option maxHeartbeats 400000 in
theorem IndexFunc0_calls (f : FuncId) (p : Move → Bool) (v : Value) (xs : List Move) (w : World) (h : rpMove.SL w w.heap.size xs v) (hf : Asks0 f p) (R : Ending → World → Prop)
    (hR : ∀ w', Below w.heap.size w w' → R (.returned (.int .i64 (idx p xs))) w') :
    Calls Try.prog 38 #[v, .func (.func f) #[] #[]] w R := by
  obtain ⟨hen, hf⟩ := hf
  have hcf := hen.run
  obtain ⟨A, n, rfl, hm, _, h⟩ := h.cases_
  go_enter Try.func38, Try.ntmps38
  go_wp2
  go_loopw [8] (fun i wr => ∃ k : Nat, k ≤ xs.length ∧ i = .int .i64 k ∧ (∀ j x, j < k → xs[j]? = some x → p x = false) ∧ Below w.heap.size w wr) (fun i _ => xs.length - (intOf i).toNat)
  case atStart => exact ⟨0, Nat.zero_le _, rfl, fun j x hj => absurd hj (by omega), Below.refl _ _⟩
  case round =>
    obtain ⟨k, hk, rfl, ht, hbel⟩ := hrel
    have Ht := Lib.hid ht
    clear ht
    by_cases hlt : k < xs.length
    · obtain ⟨b, off, m, rfl, hb, e, p0, p1⟩ := h.move_at hlt
      have E := Lib.hid e
      rw [← hbel.cell (p := ⟨_, _, none⟩) hb] at p0 p1
      clear e h
      have Hf := Lib.hid (hf m)
      clear hf
      go_wp2_with fail
      refine Hf.out _ _ ?_
      intro w1 hb1
      have hbel1 := hbel.trans (hb1.mono hbel.size)
      by_cases hp : p m = true
      · rw [hp]
        go_wp2
        rw [idx_some Ht.out E.out hp] at hR
        exact hR _ hbel1
      · have hp' : p m = false := by simpa using hp
        rw [hp']
        go_wp2
        go_roundw
        case rel => exact ⟨k + 1, by omega, by go_num, step_all Ht.out E.out hp', hbel1⟩
        case measure => simp [intOf]; omega
    · obtain rfl : k = xs.length := by omega
      go_wp2
      rw [idx_none Ht.out] at hR
      exact hR _ hbel


set_option maxHeartbeats 400000 in
theorem same_asks : Asks0 35 (fun m => m.to == m.src) := by
  refine ⟨⟨_, Try.func35, by kernel_rfl, rfl⟩, fun x W R hR => ?_⟩
  go_enter Try.func35, Try.ntmps35
  go_wp2
  first | exact (by repeat (first | exact Below.refl _ _ | assumption | refine below_drewN ?_ _ | refine Below.drew ?_ | refine Below.setCell ?_ (by first | omega | (simp; done) | (simp; omega)) _ | refine Below.alloc ?_ (by first | omega | (simp; done) | (simp; omega)) _ | refine below_step (by assumption) ?_ (by first | omega | (simp; done) | (simp; omega)))) | exact hR _ (by repeat (first | exact Below.refl _ _ | assumption | refine below_drewN ?_ _ | refine Below.drew ?_ | refine Below.setCell ?_ (by first | omega | (simp; done) | (simp; omega)) _ | refine Below.alloc ?_ (by first | omega | (simp; done) | (simp; omega)) _ | refine below_step (by assumption) ?_ (by first | omega | (simp; done) | (simp; omega))))

theorem filter_snoc {p : Move → Bool} {xs : List Move} {k : Nat} {m : Move} (h : xs[k]? = some m) : (xs.take (k + 1)).filter p = (xs.take k).filter p ++ (if p m then [m] else []) := by
  rw [List.take_add_one, h, List.filter_append]
  simp [List.filter_cons]

theorem del_step {F mid D : List Move} {a m : Move} : (F ++ (a :: mid) ++ (m :: D)).set F.length m = (F ++ [m]) ++ (mid ++ [m]) ++ D := by
  rw [List.append_assoc, List.set_append, if_neg (Nat.lt_irrefl _), Nat.sub_self, List.cons_append, List.set_cons_zero]
  simp

set_option maxHeartbeats 1000000 in
theorem DeleteFunc_calls (f : FuncId) (p : Move → Bool) (v : Value) (xs : List Move) (w : World) (base : Nat) (hown : w.ownsRow base 47 2 v xs.length (xs.flatMap Move.cells)) (hmax : xs.length ≤ 4294967296) (hf : Asks0 f p) (R : Ending → World → Prop)
    (hR : ∀ w' v', w.grownBy w' v.ownBlock → w'.ownsRow base 47 2 v' (xs.filter (fun m => !p m)).length ((xs.filter (fun m => !p m)).flatMap Move.cells) → R (.returned v') w') :
    Calls Try.prog 33 #[v, .func (.func f) #[] #[]] w R := by
  have hsl : rpMove.SL w w.heap.size xs v := SLMove_own hown (Nat.le_refl _)
  have Hown := Lib.hid hown
  have Hf := Lib.hid hf
  clear hown hf
  by_cases hany : ∀ (j : Nat) (x : Move), j < xs.length → xs[j]? = some x → p x = false
  · have hidx : idx p xs = -1 := idx_none hany
    have hfil : xs.filter (fun m => !p m) = xs := List.filter_eq_self.2 fun x hx => by
      obtain ⟨j, hj, e⟩ := List.mem_iff_getElem.1 hx
      rw [hany j x hj (by rw [List.getElem?_eq_getElem hj, e])]
      rfl
    have hc := IndexFunc0_calls f p v xs w hsl Hf.out
    rw [hidx] at hc
    rw [hfil] at hR
    have Hc := Lib.hid hc
    clear hany hidx hfil hc
    go_enter Try.func33, Try.ntmps33
    go_wp2_with fail
    refine Hc.out _ ?_
    intro w1 hb1
    go_wp2
    exact hR _ _ (grown_of_below hb1 _) (own_below Hown.out hb1)
  · have hex : ∃ k m, xs[k]? = some m ∧ p m = true ∧ ∀ (j : Nat) (x : Move), j < k → xs[j]? = some x → p x = false := by
      cases h : xs.findIdx? p with
      | none =>
        rw [List.findIdx?_eq_none_iff] at h
        exact absurd (fun j x hj hx => h x (List.mem_of_getElem? hx)) hany
      | some k =>
        obtain ⟨hk, hp, hlt⟩ := List.findIdx?_eq_some_iff_getElem.1 h
        refine ⟨k, xs[k], List.getElem?_eq_getElem hk, hp, fun j x hj hx => ?_⟩
        have := hlt j hj
        rw [List.getElem?_eq_getElem (by omega)] at hx
        injection hx with hx
        rw [← hx]
        simpa using this
    obtain ⟨k, m0, e0, hp0, hlt0⟩ := hex
    have hk : k < xs.length := (List.getElem?_eq_some_iff.1 e0).1
    have hidx : idx p xs = k := idx_some hlt0 e0 hp0
    have hF0 : (xs.take k).filter (fun m => !p m) = xs.take k := List.filter_eq_self.2 fun x hx => by
      obtain ⟨j, hj, e⟩ := List.mem_iff_getElem.1 hx
      simp at hj
      rw [hlt0 j x (by omega) (by rw [← e, List.getElem_take, List.getElem?_eq_getElem])]
      rfl
    have hF1 : (xs.take (k + 1)).filter (fun m => !p m) = xs.take k := by rw [filter_snoc e0, hF0]; simp [hp0]
    have hc := IndexFunc0_calls f p v xs w hsl Hf.out
    rw [hidx] at hc
    have Hc := Lib.hid hc
    obtain ⟨g, cap, rfl, hbg, hgl, hnc, hmx⟩ := own_some Hown.out (by omega)
    obtain ⟨hen, hf⟩ := Hf.out
    have hcf := hen.run
    have Hf2 := Lib.hid hf
    have H0 : Hid (xs[k]? = some m0 ∧ (xs.take (k + 1)).filter (fun m => !p m) = xs.take k) := ⟨e0, hF1⟩
    clear hany hidx hc hf hF0 hF1 hlt0 e0 hsl
    have hk1 : ((k : Int) == -1) = false := by simp
    go_enter Try.func33, Try.ntmps33
    go_wp2_with fail
    refine Hc.out _ ?_
    intro w1 hb1
    have hown1 := own_below Hown.out hb1
    have hgr1 := grown_of_below hb1 (some g)
    go_wp2
    go_loopw [5, 6] (fun i jv wr => ∃ (j : Nat) (mid : List Move), k < j ∧ j ≤ xs.length ∧ jv = .int .i64 j ∧ i = .int .i64 ((((xs.take j).filter (fun m => !p m)).length : Nat) : Int) ∧ 0 < mid.length ∧ ((xs.take j).filter (fun m => !p m)).length + mid.length = j ∧
      wr.ownsRow base 47 2 (.slice (some ⟨g, 0, none⟩) xs.length cap) xs.length (((xs.take j).filter (fun m => !p m) ++ mid ++ xs.drop j).flatMap Move.cells) ∧ w.grownBy wr (some g)) (fun _ j _ => xs.length - (intOf j).toNat)
    case atStart =>
      refine ⟨k + 1, [m0], by omega, by omega, by go_num, ?_, by simp, ?_, ?_, hgr1⟩
      · rw [H0.out.2, List.length_take, Nat.min_eq_left (by omega)]
      · rw [H0.out.2, List.length_take, Nat.min_eq_left (by omega)]; rfl
      · rw [H0.out.2]
        have : xs.take k ++ [m0] ++ xs.drop (k + 1) = xs := by
          have e1 := H0.out.1
          rw [List.getElem?_eq_getElem hk] at e1
          injection e1 with e1
          rw [List.append_assoc, List.singleton_append, ← e1, ← List.drop_eq_getElem_cons hk, List.take_append_drop]
        rw [this]
        exact hown1
    case round =>
      obtain ⟨j, mid, hkj, hj, rfl, rfl, hmid, hsum, hown, hgr⟩ := hrel
      by_cases hlt : j < xs.length
      · have hm : xs[j]? = some xs[j] := List.getElem?_eq_getElem hlt
        have hfs := filter_snoc (p := fun m => !p m) hm
        have hD : xs.drop j = xs[j] :: xs.drop (j + 1) := List.drop_eq_getElem_cons hlt
        have hjn : (xs.drop (j + 1)).length = xs.length - (j + 1) := List.length_drop
        rw [hD] at hown
        generalize xs[j] = m at *
        generalize hF : (xs.take j).filter (fun m => !p m) = F at *
        generalize hDD : xs.drop (j + 1) = D at *
        have HF := Lib.hid hF
        have HD := Lib.hid hDD
        clear hF hDD
        cases mid with
        | nil => simp at hmid
        | cons a mid =>
        have hl : (F ++ (a :: mid) ++ (m :: D)).length = xs.length := by simp at hsum ⊢; omega
        have hgj : (F ++ (a :: mid) ++ (m :: D))[j]? = some m := by
          rw [List.getElem?_append_right (by simp at hsum ⊢; omega), show j - (F ++ (a :: mid)).length = 0 from by simp at hsum ⊢; omega]
          rfl
        obtain ⟨b', off', m', hA, _, e', p0, p1⟩ := (SLMove_own (xs := F ++ (a :: mid) ++ (m :: D)) (by rw [hl]; exact hown) (Nat.le_refl _)).move_at (k := j) (by omega)
        rw [hgj] at e'
        injection e' with e'
        injection hA with hA
        injection hA with hA1 hA2
        subst e' hA1 hA2
        rw [Nat.zero_add] at p0 p1
        have hgw : g < wr.heap.size := by have := hgr.size; omega
        have Hfs := Lib.hid hfs
        have Hs := Lib.hid hsum
        have Ho := Lib.hid hown
        have HFl : F.length < j := by simp at hsum; omega
        clear hfs hsum hown hm hD hgj hl hjn
        go_wp2_with fail
        refine Hf2.out m _ _ ?_
        intro w2 hb2
        obtain ⟨hc2, hf2⟩ := bcell hb2
        have hz : wr.heap.size < w2.heap.size := by have := hb2.size; simp at this; omega
        have hgz : g < w2.heap.size := by omega
        have hown2 := own_below (Ho.out.alloc _) hb2
        have hgr2 := (hgr.trans (World.grownBy_alloc wr _ (some g))).trans (grown_of_below hb2 (some g))
        by_cases hp : p m = true
        · rw [hp]
          rw [hp] at Hfs
          go_wp2
          go_roundw
          case rel =>
            have hs := Hs.out
            refine ⟨j + 1, a :: mid ++ [m], by omega, by omega, by go_num, ?_, by simp, ?_, ?_, hgr2⟩
            · rw [Hfs.out]; simp
            · rw [Hfs.out]; simp at hs ⊢; omega
            · rw [Hfs.out, HD.out]
              simpa using hown2
          case measure => simp [intOf]; omega
        · have hp' : p m = false := by simpa using hp
          rw [hp']
          rw [hp'] at Hfs
          obtain ⟨c0, z0⟩ := own_there Ho.out (F.length * 2) (by omega)
          obtain ⟨c1, z1⟩ := own_there Ho.out (F.length * 2 + 1) (by omega)
          obtain ⟨u0, d0⟩ := Option.isSome_iff_exists.1 c0
          obtain ⟨u1, d1⟩ := Option.isSome_iff_exists.1 c1
          clear c0 c1
          have i1 : (F.length : Int) < (xs.length : Int) := by omega
          have hown3 : (w2.setCells g (F.length * 2) m.cells).ownsRow base 47 2 (.slice (some ⟨g, 0, none⟩) xs.length cap) xs.length (((F ++ [m]) ++ (mid ++ [m]) ++ D).flatMap Move.cells) := by
            refine own_setCells hown2 (by show _ + 2 ≤ _; omega) (Nat.le_refl _) _ ?_
            rw [flat_set Move.cells 2 Move.cells_length _ _ _ (by simp), del_step, List.take_of_length_le]
            have hs := Hs.out
            have := hown2.1
            rw [flat_length Move.cells 2 Move.cells_length] at this ⊢
            simp at this ⊢ <;> omega
          have hgr3 := grown_setCells (g := g) m.cells (F.length * 2) w2 hgr2
          clear hown2
          go_wp2
          go_roundw
          case rel =>
            have hs := Hs.out
            refine ⟨j + 1, mid ++ [m], by omega, by omega, by go_num, ?_, by simp, ?_, ?_, hgr3⟩
            · rw [Hfs.out]; simp
            · rw [Hfs.out]; simp at hs ⊢; omega
            · rw [Hfs.out, HD.out]
              exact hown3
          case measure => simp [intOf]; omega
      · obtain rfl : j = xs.length := by omega
        rw [List.drop_length, List.append_nil] at hown
        rw [List.take_length] at hown hsum
        generalize hF : xs.filter (fun m => !p m) = F at *
        have HF := Lib.hid hF
        have Hs := Lib.hid hsum
        have HFl : F.length < xs.length := by omega
        have hownF : wr.ownsRow base 47 2 (.slice (some ⟨g, 0, none⟩) F.length cap) F.length (F.flatMap Move.cells) := by
          have := own_setCells (vs := []) (o := 0) (m := F.length) hown (by simp) (by omega) (F.flatMap Move.cells) (by
            simp only [List.take_zero, List.nil_append, List.length_nil, Nat.add_zero, List.drop_zero]
            rw [List.flatMap_append, List.take_append_of_le_length (by rw [flat_length Move.cells 2 Move.cells_length]; exact Nat.le_refl _), List.take_of_length_le (by rw [flat_length Move.cells 2 Move.cells_length]; exact Nat.le_refl _)])
          exact this
        have hgw : g < wr.heap.size := by have := hgr.size; omega
        have Ho := Lib.hid hown
        clear hown hsum hF
        have i0 : (0 : Int) ≤ (F.length : Int) := Int.natCast_nonneg _
        have i1 : (F.length : Int) ≤ (xs.length : Int) := by omega
        have i2 : (F.length : Int) ≤ (cap : Int) := by omega
        rw [show (List.filter (fun m => !p m) (List.take xs.length xs)).length = F.length from by rw [List.take_length, HF.out]]
        go_wp2_with (with_reducible refine wpList_clear_own rfl (.tmp 38) 34 rfl 47 _ Try.underlying34 zero_Move rfl ?_ hownF (F.length * 2) (xs.length - F.length) (cap - F.length) ?_ ?_ ?_ ?_)
        · intro u hu
          simp [Value.cells] at hu
          subst hu
          rfl
        · rfl
        · omega
        · exact fun _ => rfl
        · intro w2 hown2 hg2
          go_wp2
          exact hR _ _ (hgr.trans hg2) hown2
end Go.Proofs.Ytmlmnhhgdcfchaa
