/- Moves: the row, walked. -/
import Derived.Test.YtmlmnhhgdcfchaaLib
import Derived.Test.YtmlmnhhgdcfchaaRows
import Derived.IntWalk
import Derived.Deep.LoopGhost
import Derived.Test.YtmlmnhhgdcfchaaMoves2
import Derived.Test.YtmlmnhhgdcfchaaMoves3
import Derived.Test.YtmlmnhhgdcfchaaMovesPlain
namespace Go.Proofs.Ytmlmnhhgdcfchaa
open Go.RowKit
set_option linter.unusedSimpArgs false
set_option linter.unusedVariables false

set_option maxHeartbeats 400000 in
theorem from_asks (g : Nat) (t : Int) (w : World) (hg : g < w.heap.size) (hc : w.cell? ⟨g, 0, none⟩ = some (.int .i64 t)) : Asks 37 [.pointer (some ⟨g, 0, none⟩)] (fun o => o.src == t) w := by
  refine ⟨⟨_, Try.func37, by kernel_rfl, rfl⟩, fun x W R hW hR => ?_⟩
  have hc' : W.cell? ⟨g, 0, none⟩ = some (.int .i64 t) := (hW.cell hg).trans hc
  have hg' : g < W.heap.size := by have := hW.size; omega
  clear hW hc
  go_enter Try.func37, Try.ntmps37
  go_wp2
  first | exact (by repeat (first | exact Below.refl _ _ | assumption | refine below_drewN ?_ _ | refine Below.drew ?_ | refine Below.setCell ?_ (by first | omega | (simp; done) | (simp; omega)) _ | refine Below.alloc ?_ (by first | omega | (simp; done) | (simp; omega)) _ | refine below_step (by assumption) ?_ (by first | omega | (simp; done) | (simp; omega)))) | exact hR _ (by repeat (first | exact Below.refl _ _ | assumption | refine below_drewN ?_ _ | refine Below.drew ?_ | refine Below.setCell ?_ (by first | omega | (simp; done) | (simp; omega)) _ | refine Below.alloc ?_ (by first | omega | (simp; done) | (simp; omega)) _ | refine below_step (by assumption) ?_ (by first | omega | (simp; done) | (simp; omega))))

set_option maxHeartbeats 400000 in
theorem free_asks (g : Nat) (v : Value) (left : List Move) (w : World) (hg : g < w.heap.size) (hc : w.cell? ⟨g, 0, none⟩ = some v) (h : rpMove.SL w w.heap.size left v) : Asks 36 [.pointer (some ⟨g, 0, none⟩)] (freeIn left) w := by
  refine ⟨⟨_, Try.func36, by kernel_rfl, rfl⟩, fun x W R hW hR => ?_⟩
  have hc' : W.cell? ⟨g, 0, none⟩ = some v := (hW.cell hg).trans hc
  have hg' : g < W.heap.size := by have := hW.size; omega
  have h' : rpMove.SL W W.heap.size left v := h.up hW hW.size
  clear hW hc h
  unfold freeIn at hR
  go_enter Try.func36, Try.ntmps36
  go_wp2_with fail
  refine ContainsFunc_calls _ _ (fun o => o.src == x.to) _ left _ (h'.up (w' := W.alloc _) (by repeat (first | exact Below.refl _ _ | assumption | refine below_drewN ?_ _ | refine Below.drew ?_ | refine Below.setCell ?_ (by first | omega | (simp; done) | (simp; omega)) _ | refine Below.alloc ?_ (by first | omega | (simp; done) | (simp; omega)) _ | refine below_step (by assumption) ?_ (by first | omega | (simp; done) | (simp; omega)))) (by first | omega | (simp; done) | (simp; omega))) (from_asks _ x.to _ (by simp) (by simp)) _ ?_
  intro w1 hb1
  generalize left.any (fun o => o.src == x.to) = q at *
  go_wp2
  first | exact (by repeat (first | exact Below.refl _ _ | assumption | refine below_drewN ?_ _ | refine Below.drew ?_ | refine Below.setCell ?_ (by first | omega | (simp; done) | (simp; omega)) _ | refine Below.alloc ?_ (by first | omega | (simp; done) | (simp; omega)) _ | refine below_step (by assumption) ?_ (by first | omega | (simp; done) | (simp; omega)))) | exact hR _ (by repeat (first | exact Below.refl _ _ | assumption | refine below_drewN ?_ _ | refine Below.drew ?_ | refine Below.setCell ?_ (by first | omega | (simp; done) | (simp; omega)) _ | refine Below.alloc ?_ (by first | omega | (simp; done) | (simp; omega)) _ | refine below_step (by assumption) ?_ (by first | omega | (simp; done) | (simp; omega))))

theorem own_blocks_ne {w : World} {base g : Nat} {e e' : TypeId} {size n : Nat} {v : Value} {xs : List Value} {cs : Array Value} (h : w.ownsRow base e size v n xs) (hg : w.heap[g]? = some (.cells cs e' (0, 0))) (hne : e ≠ e') : v.ownBlock ≠ some g := by
  rcases h.2 with ⟨rfl, _⟩ | ⟨g', cap, cur, rfl, _, hh, _⟩
  · simp [Value.ownBlock]
  · intro he
    have : g' = g := by simpa [Value.ownBlock] using he
    subst this
    rw [hg] at hh
    injection hh with hh
    injection hh with _ ht
    exact hne ht.symm
theorem block_cell {w : World} {g j : Nat} {e : TypeId} {cs : Array Value} (h : w.heap[g]? = some (.cells cs e (0, 0))) : w.cell? ⟨g, j, none⟩ = cs[j]? ∧ w.frozen? ⟨g, j, none⟩ = false ∧ g < w.heap.size := by
  refine ⟨by simp [World.cell?, h], by simp [World.frozen?, h], ?_⟩
  rcases Nat.lt_or_ge g w.heap.size with hlt | hge
  · exact hlt
  · rw [Array.getElem?_eq_none hge] at h
    cases h

theorem respare_step {spare src : Int} {left : List Move} {i : Nat} {m : Move} (h : left[i]? = some m) :
    respare spare src (left.take (i + 1)) ++ left.drop (i + 1) = (respare spare src (left.take i) ++ left.drop i).set i (if m.src = src then ⟨m.to, spare⟩ else m) := by
  have hi : i < left.length := (List.getElem?_eq_some_iff.1 h).1
  have hm : left[i] = m := by rw [List.getElem?_eq_getElem hi] at h; injection h
  rw [List.drop_eq_getElem_cons hi, hm, List.set_append, if_neg (by simp [respare]; omega), List.take_add_one, h]
  have : i - (respare spare src (left.take i)).length = 0 := by simp [respare]; omega
  rw [this, List.set_cons_zero]
  simp [respare]
theorem set_same {α : Type} {l : List α} {i : Nat} {a : α} (h : l[i]? = some a) : l.set i a = l := by
  apply List.ext_getElem?
  intro j
  rw [List.getElem?_set]
  split
  · rename_i e
    subst e
    rw [if_pos (List.getElem?_eq_some_iff.1 h).1, h]
  · rfl
theorem respare_at {spare src : Int} {left : List Move} {i : Nat} {m : Move} (h : left[i]? = some m) : (respare spare src (left.take i) ++ left.drop i)[i]? = some m := by
  have hi : i < left.length := (List.getElem?_eq_some_iff.1 h).1
  rw [List.getElem?_append_right (by simp [respare]; omega), List.getElem?_drop, show i + (i - (respare spare src (left.take i)).length) = i from by simp [respare]; omega]
  exact h
theorem respare_len {spare src : Int} {left : List Move} {i : Nat} : (respare spare src (left.take i) ++ left.drop i).length = left.length := by
  simp [respare]
  omega
theorem flat_set_src {X : List Move} {i : Nat} {m : Move} (h : X[i]? = some m) (s : Int) : (X.flatMap Move.cells).take (i * 2 + 1) ++ [.int .i64 s] ++ (X.flatMap Move.cells).drop (i * 2 + 1 + 1) = (X.set i ⟨m.to, s⟩).flatMap Move.cells := by
  have hi : i < X.length := (List.getElem?_eq_some_iff.1 h).1
  have e := flat_set Move.cells 2 Move.cells_length X i ⟨m.to, s⟩ hi
  have g := Rp.flat_get Move.cells 2 Move.cells_length X i 0 m h (by omega)
  rw [← e, List.take_add_one, show i * 2 = i * 2 + 0 from rfl, g]
  simp [Move.cells]

set_option maxHeartbeats 1000000 in
theorem Of_calls (v : Value) (xs : List Move) (spare : Int) (w : World) (h : rpMove.SL w w.heap.size xs v) (hn : xs.length ≤ 1000) (hf : Fine spare (xs.filter (fun m => !(m.to == m.src)))) (R : Ending → World → Prop)
    (hR : ∀ w' v' n, mu (xs.filter (fun m => !(m.to == m.src))) ≤ n → Below w.heap.size w w' → w'.ownsRow w.heap.size 47 2 v' (rowN spare n (xs.filter (fun m => !(m.to == m.src)))).length ((rowN spare n (xs.filter (fun m => !(m.to == m.src)))).flatMap Move.cells) → R (.returned v') w') :
    Calls Try.prog 27 #[v, .int .i64 spare] w R := by
  obtain ⟨i0, hi, hz0, hz1, hz2⟩ := info_parts info_Move
  generalize hL : xs.filter (fun m => !(m.to == m.src)) = left0 at *
  have hl0 : left0.length ≤ 1000 := by rw [← hL]; exact Nat.le_trans (List.length_filter_le _ _) hn
  have HL := Lib.hid hL
  have HR := Lib.hid hR
  clear hL hR
  go_enter Try.func27, Try.ntmps27
  go_wp2_with fail
  refine Clone_calls _ xs _ h (by omega) _ ?_
  intro w1 v1 hb1 ho1
  go_wp2_with fail
  refine DeleteFunc_calls _ (fun m => m.to == m.src) _ xs _ _ ho1 (by omega) same_asks _ ?_
  intro w2 v2 hg2 ho2
  rw [HL.out] at ho2
  have hb2 : Below w.heap.size w w2 := hb1.grown hg2 hb1.size (fun k hk => (ho1.lt k hk).1)
  obtain ⟨A0, c0, rfl⟩ := own_slice ho2
  have hw2 : w.heap.size ≤ w2.heap.size := hb2.size
  have Ho2 := Lib.hid ho2
  have Hb2 := Lib.hid hb2
  clear hg2 ho1 hb1 ho2 hb2 h
  go_wp2
  go_loopg [6] (mu left0) (fun k u wr => ∃ (left out : List Move) (A : Option Addr) (c m : Nat), k = mu left ∧ mu left ≤ m ∧ out ++ rowN spare m left = rowN spare (mu left0) left0 ∧ Fine spare left ∧ out.length + mu left ≤ mu left0 ∧
    wr.heap[w2.heap.size]? = some (.cells #[.slice A left.length c] 34 (0, 0)) ∧ wr.ownsRow w.heap.size 47 2 (.slice A left.length c) left.length (left.flatMap Move.cells) ∧ wr.ownsRow w.heap.size 47 2 u out.length (out.flatMap Move.cells) ∧
    (∀ g, (Value.slice A left.length c).ownBlock = some g → u.ownBlock ≠ some g) ∧ Below w.heap.size w wr)
  case atStart =>
    have ho := Ho2.out.alloc (.cells #[.slice A0 left0.length c0] 34)
    refine ⟨left0, [], A0, c0, mu left0, rfl, Nat.le_refl _, rfl, hf, by simp, ?_, ?_, ?_, ?_, ?_⟩
    · exact heap_alloc_new w2 _
    · exact ho
    · exact World.ownsRow_nil _ _ _ _
    · intro g _ e
      simp [Value.ownBlock] at e
    · exact Hb2.out.alloc hw2 _
  case round =>
    obtain ⟨left, out, A, c, m, rfl, hmu, htot, hfine, hsize, hL, hown, hout, hsep, hbel⟩ := hrel
    obtain ⟨hLc, hLf, hLs⟩ := block_cell (j := 0) hL
    have hm0 : mu left0 ≤ 2001 := by unfold mu; split <;> omega
    by_cases hemp : left = []
    · subst hemp
      rw [rowN_nil, List.append_nil] at htot
      have hlc : wr.cell? ⟨w2.heap.size, 0, none⟩ = some (.slice A 0 c) := hLc
      have Ht := Lib.hid htot
      have Hx : Hid (Below w.heap.size w wr ∧ wr.ownsRow w.heap.size 47 2 u6 out.length (out.flatMap Move.cells)) := ⟨hbel, hout⟩
      clear htot hLc hL hown hout hsep hbel
      go_wp2
      refine HR.out _ _ _ (Nat.le_refl _) Hx.out.1 ?_
      rw [← Ht.out]
      exact Hx.out.2
    · have hll : 2 * left.length ≤ mu left := by unfold mu; omega
      have hpos : 0 < left.length := List.length_pos_iff.2 hemp
      have hlc : wr.cell? ⟨w2.heap.size, 0, none⟩ = some (.slice A left.length c) := hLc
      have hp1 : (0 : Int) < (left.length : Int) := by omega
      obtain ⟨g, cap, hv, hbg, hgl, hnc, hmx⟩ := own_some hown hpos
      injection hv with hv1 _ hv3
      subst hv1 hv3
      have hsl : rpMove.SL wr wr.heap.size left (.slice (some ⟨g, 0, none⟩) left.length c) := SLMove_own hown (Nat.le_refl _)
      have hask := free_asks w2.heap.size _ left wr hLs hlc hsl
      have hidx := IndexFunc_calls _ _ _ _ _ _ hsl hask
      have Hidx := Lib.hid hidx
      have hgL : g ≠ w2.heap.size := by
        have := own_blocks_ne hown hL (by decide)
        intro e
        exact this (by simp [Value.ownBlock, e])
      have hsep1 : u6.ownBlock ≠ some g := hsep g rfl
      have huL : u6.ownBlock ≠ some w2.heap.size := own_blocks_ne hout hL (by decide)
      have Hx : Hid (wr.heap[w2.heap.size]? = some (.cells #[.slice (some ⟨g, 0, none⟩) left.length c] 34 (0, 0)) ∧ wr.ownsRow w.heap.size 47 2 (.slice (some ⟨g, 0, none⟩) left.length c) left.length (left.flatMap Move.cells) ∧ wr.ownsRow w.heap.size 47 2 u6 out.length (out.flatMap Move.cells) ∧ Below w.heap.size w wr) := ⟨hL, hown, hout, hbel⟩
      have Ht := Lib.hid htot
      clear hidx hask hsl hLc hL hown hout hsep hbel htot
      cases hfi : left.findIdx? (freeIn left) with
      | some i =>
        obtain ⟨hmul, hil, hfree, hmem⟩ := mu_some hfi
        have hid : idx (freeIn left) left = (i : Int) := by rw [idx, hfi]
        rw [hid] at Hidx
        have Hfi := Lib.hid hfi
        clear hid hfi hfree
        go_wp2_with fail
        refine Hidx.out _ ?_
        intro w3 hb3
        obtain ⟨hc3, hf3⟩ := bcell hb3
        have hz3 : wr.heap.size ≤ w3.heap.size := hb3.size
        have hL3 : w2.heap.size < w3.heap.size := by omega
        have hg3 : g < w3.heap.size := by omega
        obtain ⟨xL, xo, xu, xb⟩ := Hx.out
        obtain ⟨b', off', m', hA, _, e', p0, p1⟩ := (SLMove_own xo (Nat.le_refl _)).move_at hil
        injection hA with hA
        injection hA with hA1 hA2
        subst hA1 hA2
        rw [Nat.zero_add] at p0 p1
        have hown3 := own_below xu hb3
        have Ho3 := Lib.hid (own_below xo hb3)
        have HL3 := Lib.hid (block_grown (grown_of_below hb3 none) xL (by simp))
        have Hb3 := Lib.hid (xb.trans (hb3.mono xb.size))
        have E' := Lib.hid e'
        clear xL xo xu xb e'
        have i1 : (0 : Int) ≤ (i : Int) := Int.natCast_nonneg _
        have i2 : (i : Int) < (left.length : Int) := by omega
        go_wp2_with (at_builtin; refine wpList_append_lies _ rfl _ _ 34 rfl w.heap.size 47 i0 _ 2 16 Try.underlying34 hi hz0 hz1 hz2 rfl (by decide) u6 out.length (out.flatMap Move.cells) rfl (hown3.alloc _) ⟨w3.heap.size, 0, none⟩ 1 1 [.int .i64 m'.to, .int .i64 m'.src] rfl rfl ?_ ?_ (by decide) ?_ ?_ ?_ (w3.heap.size + 1) ?_ ?_)
        · exact World.news_of_block (cs := #[.int .i64 m'.to, .int .i64 m'.src]) (t := 47) (fr := (0, 0)) (heap_alloc_new w3 _)
        · simp [Value.oneCell']
        · unfold maxLen; omega
        · omega
        · have := Hb3.out.size; simp; omega
        · simp
        · intro gg cap w4 hout4 hgrow hat hlt4
          have hg4 := (World.grownBy_alloc w3 (.cells #[.int .i64 m'.to, .int .i64 m'.src] 47) u6.ownBlock).trans hgrow
          have ho4 := Ho3.out.kept hg4 (.inr (fun e => hsep1 e.symm))
          have hL4 := block_grown hg4 HL3.out huL
          have hb4 : Below w.heap.size w w4 := Hb3.out.grown hg4 Hb3.out.size (fun k hk => (hown3.lt k hk).1)
          have hgg : gg ≠ g := by
            rcases hat with h | h
            · rintro rfl; exact hsep1 h
            · omega
          have hggL : gg ≠ w2.heap.size := by
            rcases hat with h | h
            · rintro rfl; exact huL h
            · omega
          obtain ⟨hlc4, _, hls4⟩ := block_cell (j := 0) hL4
          have hlc4' : w4.cell? ⟨w2.heap.size, 0, none⟩ = some (.slice (some ⟨g, 0, none⟩) left.length c) := hlc4
          have Ho4 := Lib.hid ho4
          have HL4 := Lib.hid hL4
          have Hout4 := Lib.hid hout4
          have Hb4 := Lib.hid hb4
          clear hg4 ho4 hL4 hb4 hgrow hat hout4 hlc4 hown3 hc3 hf3 p0 p1 hlc
          go_wp2_with fail
          refine Delete_calls g _ c i left _ w.heap.size Ho4.out rfl hil (by omega) _ ?_
          intro w5 hg5 ho5
          have hL5 := block_grown hg5 HL4.out (by simp; exact hgL)
          have hout5 := Hout4.out.kept hg5 (.inr (by simp [Value.ownBlock]; exact hgg))
          have hb5 : Below w.heap.size w w5 := Hb4.out.trans (grown_below hg5 hbg Hb4.out.size)
          obtain ⟨hlc5, hlf5, hls5⟩ := block_cell (j := 0) hL5
          have hlc5' : w5.cell? ⟨w2.heap.size, 0, none⟩ = some (.slice (some ⟨g, 0, none⟩) left.length c) := hlc5
          have hL6 := block_set (j := 0) hL5 (.slice (some ⟨g, 0, none⟩) (left.length - 1) c)
          have ho6 := own_setCell_other (p := ⟨w2.heap.size, 0, none⟩) ho5 (by simp [Value.ownBlock]; exact hgL) (.slice (some ⟨g, 0, none⟩) (left.length - 1) c)
          have hout6 := own_setCell_other (p := ⟨w2.heap.size, 0, none⟩) hout5 (by simp [Value.ownBlock]; exact hggL) (.slice (some ⟨g, 0, none⟩) (left.length - 1) c)
          have hb6 := hb5.setCell (p := ⟨w2.heap.size, 0, none⟩) hw2 (.slice (some ⟨g, 0, none⟩) (left.length - 1) c)
          have H6 : Hid ((w5.setCell ⟨w2.heap.size, 0, none⟩ (.slice (some ⟨g, 0, none⟩) (left.length - 1) c)).heap[w2.heap.size]? = some (.cells #[.slice (some ⟨g, 0, none⟩) (left.length - 1) c] 34 (0, 0)) ∧
            (w5.setCell ⟨w2.heap.size, 0, none⟩ (.slice (some ⟨g, 0, none⟩) (left.length - 1) c)).ownsRow w.heap.size 47 2 (.slice (some ⟨g, 0, none⟩) (left.length - 1) c) (left.length - 1) ((left.eraseIdx i).flatMap Move.cells) ∧
            (w5.setCell ⟨w2.heap.size, 0, none⟩ (.slice (some ⟨g, 0, none⟩) (left.length - 1) c)).ownsRow w.heap.size 47 2 (.slice (some ⟨gg, 0, none⟩) (out.length + 1) cap) (out.length + 1) (out.flatMap Move.cells ++ [.int .i64 m'.to, .int .i64 m'.src]) ∧ Below w.heap.size w (w5.setCell ⟨w2.heap.size, 0, none⟩ (.slice (some ⟨g, 0, none⟩) (left.length - 1) c))) := ⟨hL6, ho6, hout6, hb6⟩
          clear hg5 ho5 hL5 hout5 hb5 hL6 ho6 hout6 hb6 hlc5
          go_wp2
          go_roundg (mu (left.eraseIdx i))
          case measure => exact hmul
          case rel =>
            have hel : (left.eraseIdx i).length = left.length - 1 := by rw [List.length_eraseIdx, if_pos hil]
            have hgd : left.getD i Move.zero = m' := by rw [List.getD_eq_getElem?_getD, E'.out]; rfl
            obtain ⟨m2, rfl⟩ : ∃ m2, m = m2 + 1 := ⟨m - 1, by omega⟩
            have ht := Ht.out
            rw [rowN_some Hfi.out, hgd] at ht
            refine ⟨left.eraseIdx i, out ++ [m'], some ⟨g, 0, none⟩, c, m2, rfl, by omega, by rw [← ht]; simp, fine_erase hfine, by simp; omega, ?_, ?_, ?_, ?_, H6.out.2.2.2⟩
            · rw [hel]; exact H6.out.1
            · rw [hel]; exact H6.out.2.1
            · rw [List.length_append, List.flatMap_append]; exact H6.out.2.2.1
            · intro k hk
              simp [Value.ownBlock] at hk ⊢
              omega
      | none =>
        have hid : idx (freeIn left) left = -1 := by rw [idx, hfi]
        rw [hid] at Hidx
        have Hfi := Lib.hid hfi
        clear hid hfi
        obtain ⟨m0, hm0'⟩ : ∃ m0, left[0]? = some m0 := ⟨left[0], List.getElem?_eq_getElem hpos⟩
        have hgd0 : left.getD 0 Move.zero = m0 := by rw [List.getD_eq_getElem?_getD, hm0']; rfl
        go_wp2_with fail
        refine Hidx.out _ ?_
        intro w3 hb3
        obtain ⟨hc3, hf3⟩ := bcell hb3
        have hz3 : wr.heap.size ≤ w3.heap.size := hb3.size
        have hL3 : w2.heap.size < w3.heap.size := by omega
        have hg3 : g < w3.heap.size := by omega
        obtain ⟨xL, xo, xu, xb⟩ := Hx.out
        obtain ⟨b', off', m', hA, _, e', p0, p1⟩ := (SLMove_own xo (Nat.le_refl _)).move_at hpos
        injection hA with hA
        injection hA with hA1 hA2
        subst hA1 hA2
        rw [hm0'] at e'
        injection e' with e'
        subst e'
        have p1' : wr.cell? ⟨g, 1, none⟩ = some (.int .i64 m0.src) := by simpa using p1
        have hown3 := own_below xu hb3
        have Ho3 := Lib.hid (own_below xo hb3)
        have HL3 := Lib.hid (block_grown (grown_of_below hb3 none) xL (by simp))
        have Hb3 := Lib.hid (xb.trans (hb3.mono xb.size))
        have Hg0 := Lib.hid hgd0
        clear xL xo xu xb hm0' hgd0 p0 p1
        have i2 : (0 : Int) < (left.length : Int) := by omega
        go_wp2_with (at_builtin; refine wpList_append_lies _ rfl _ _ 34 rfl w.heap.size 47 i0 _ 2 16 Try.underlying34 hi hz0 hz1 hz2 rfl (by decide) u6 out.length (out.flatMap Move.cells) rfl (hown3.alloc _) ⟨w3.heap.size, 0, none⟩ 1 1 [.int .i64 spare, .int .i64 m0.src] rfl rfl ?_ ?_ (by decide) ?_ ?_ ?_ (w3.heap.size + 1) ?_ ?_)
        · exact World.news_of_block (cs := #[.int .i64 spare, .int .i64 m0.src]) (t := 47) (fr := (0, 0)) (heap_alloc_new w3 _)
        · simp [Value.oneCell']
        · unfold maxLen; omega
        · omega
        · have := Hb3.out.size; simp; omega
        · simp
        · intro gg cap w4 hout4 hgrow hat hlt4
          have hg4 := (World.grownBy_alloc w3 (.cells #[.int .i64 spare, .int .i64 m0.src] 47) u6.ownBlock).trans hgrow
          have ho4 := Ho3.out.kept hg4 (.inr (fun e => hsep1 e.symm))
          have hL4 := block_grown hg4 HL3.out huL
          have hb4 : Below w.heap.size w w4 := Hb3.out.grown hg4 Hb3.out.size (fun k hk => (hown3.lt k hk).1)
          have hgg : gg ≠ g := by
            rcases hat with h | h
            · rintro rfl; exact hsep1 h
            · omega
          obtain ⟨hlc4, _, hls4⟩ := block_cell (j := 0) hL4
          have hlc4' : w4.cell? ⟨w2.heap.size, 0, none⟩ = some (.slice (some ⟨g, 0, none⟩) left.length c) := hlc4
          have Ho4 := Lib.hid ho4
          have HL4 := Lib.hid hL4
          have Hout4 := Lib.hid hout4
          have Hb4 := Lib.hid hb4
          clear hg4 ho4 hL4 hb4 hgrow hat hout4 hlc4 hown3 hc3 hf3 p1' hlc
          go_wp2
          go_loopg [47] left.length (fun k s wx => ∃ i : Nat, i ≤ left.length ∧ k = left.length - i ∧ s = .int .i64 i ∧ wx.heap[w2.heap.size]? = some (.cells #[.slice (some ⟨g, 0, none⟩) left.length c] 34 (0, 0)) ∧
            wx.ownsRow w.heap.size 47 2 (.slice (some ⟨g, 0, none⟩) left.length c) left.length ((respare spare m0.src (left.take i) ++ left.drop i).flatMap Move.cells) ∧
            wx.ownsRow w.heap.size 47 2 (.slice (some ⟨gg, 0, none⟩) (out.length + 1) cap) (out.length + 1) (out.flatMap Move.cells ++ [.int .i64 spare, .int .i64 m0.src]) ∧ Below w.heap.size w wx)
          case atStart => exact ⟨0, Nat.zero_le _, rfl, rfl, HL4.out, by simpa [respare] using Ho4.out, Hout4.out, Hb4.out⟩
          case round =>
            rename World => wx
            obtain ⟨i, hi', rfl, rfl, hLx, hox, hux, hbx⟩ := hrel
            obtain ⟨hlcx, _, hlsx⟩ := block_cell (j := 0) hLx
            have hlcx' : wx.cell? ⟨w2.heap.size, 0, none⟩ = some (.slice (some ⟨g, 0, none⟩) left.length c) := hlcx
            have hgx : g < wx.heap.size := (hox.lt g rfl).2
            have Hx := Lib.hid (And.intro hLx (And.intro hox (And.intro hux hbx)))
            by_cases hlt : i < left.length
            · have hm := List.getElem?_eq_getElem hlt
              generalize left[i] = m1 at *
              have hat1 := respare_at (spare := spare) (src := m0.src) hm
              have hst := respare_step (spare := spare) (src := m0.src) hm
              obtain ⟨b', off', m', hA, _, e', q0, q1⟩ := (SLMove_own (xs := respare spare m0.src (left.take i) ++ left.drop i) (by rw [respare_len]; exact hox) (Nat.le_refl _)).move_at (k := i) (by rw [respare_len]; exact hlt)
              injection hA with hA
              injection hA with hA1 hA2
              subst hA1 hA2
              rw [hat1] at e'
              injection e' with e'
              subst e'
              rw [Nat.zero_add] at q1
              obtain ⟨c1, z1⟩ := own_there hox (i * 2 + 1) (by omega)
              have Hst := Lib.hid hst
              have Hat := Lib.hid hat1
              clear hLx hox hux hbx hlcx hm hat1 hst q0 c1
              have i3 : (0 : Int) ≤ (i : Int) := Int.natCast_nonneg _
              have i4 : (i : Int) < (left.length : Int) := by omega
              by_cases hs : m1.src = m0.src
              · have hsb : (m1.src == m0.src) = true := by simp [hs]
                obtain ⟨hLx, hox, hux, hbx⟩ := Hx.out
                have ho7 := own_setCells (vs := [.int .i64 spare]) (o := i * 2 + 1) (m := left.length) hox (by simp; omega) (Nat.le_refl _) ((respare spare m0.src (left.take (i + 1)) ++ left.drop (i + 1)).flatMap Move.cells) (by
                  show List.take _ (_ ++ _ ++ List.drop (i * 2 + 1 + 1) _) = _
                  rw [flat_set_src Hat.out spare, Hst.out, if_pos hs, List.take_of_length_le]
                  rw [flat_length Move.cells 2 Move.cells_length, List.length_set, respare_len]
                  exact Nat.le_refl _)
                have hL7 := block_grown (grown_setCell wx ⟨g, i * 2 + 1, none⟩ (.int .i64 spare)) hLx (by simp; exact hgL)
                have hu7 := own_setCell_other (p := ⟨g, i * 2 + 1, none⟩) hux (by simp [Value.ownBlock]; exact hgg) (.int .i64 spare)
                have hb7 := hbx.setCell (p := ⟨g, i * 2 + 1, none⟩) hbg (.int .i64 spare)
                have H7 := Lib.hid (And.intro hL7 (And.intro ho7 (And.intro hu7 hb7)))
                have Hs := Lib.hid hs
                clear hLx hox hux hbx ho7 hL7 hu7 hb7 hs
                go_wp2
                go_roundg (left.length - (i + 1))
                case measure => omega
                case rel => exact ⟨i + 1, by omega, rfl, by go_num, H7.out.1, H7.out.2.1, H7.out.2.2.1, H7.out.2.2.2⟩
              · have hsb : (m1.src == m0.src) = false := by simp [hs]
                go_wp2
                go_roundg (left.length - (i + 1))
                case measure => omega
                case rel =>
                  obtain ⟨hLx, hox, hux, hbx⟩ := Hx.out
                  refine ⟨i + 1, by omega, rfl, by go_num, hLx, ?_, hux, hbx⟩
                  rw [Hst.out, if_neg hs, set_same Hat.out]
                  exact hox
            · obtain rfl : i = left.length := by omega
              clear hLx hox hux hbx hlcx
              go_wp2
              go_roundg (mu (respare spare m0.src left))
              case measure =>
                have := mu_none hfine Hfi.out hemp
                rw [Hg0.out] at this
                exact this
              case rel =>
                obtain ⟨hLx, hox, hux, hbx⟩ := Hx.out
                have hlt := mu_none hfine Hfi.out hemp
                obtain ⟨m2, rfl⟩ : ∃ m2, m = m2 + 1 := ⟨m - 1, by omega⟩
                have ht := Ht.out
                rw [rowN_none Hfi.out hemp] at ht
                rw [Hg0.out] at ht hlt
                rw [List.take_length, List.drop_length, List.append_nil] at hox
                refine ⟨respare spare m0.src left, out ++ [⟨spare, m0.src⟩], some ⟨g, 0, none⟩, c, m2, rfl, by omega, by rw [← ht]; simp, fine_respare hfine, by simp; omega, ?_, ?_, ?_, ?_, hbx⟩
                · rw [respare_length]; exact hLx
                · rw [respare_length]; exact hox
                · rw [List.length_append, List.flatMap_append]; exact hux
                · intro k hk
                  simp [Value.ownBlock] at hk ⊢
                  omega
end Go.Proofs.Ytmlmnhhgdcfchaa
