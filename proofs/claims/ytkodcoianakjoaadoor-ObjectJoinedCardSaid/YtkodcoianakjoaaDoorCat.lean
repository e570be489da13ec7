/- Rows of sections joined: append, slices.Grow, slices.Concat. -/
import Derived.Test.YtkodcoianakjoaaDoorBase
import Derived.Test.YtkodcoianakjoaaDoorRows
import Derived.IntWalk
import Derived.Deep.LoopGhost
import Derived.Outline
import Derived.Laws.AppendOwnNone
import Derived.Lib.AppendZeros
import Derived.Test.YtkodcoianakjoaaDoorCopyA
namespace Go.Proofs.YtkodcoianakjoaaDoor
open Go.RowKit
set_option linter.unusedSimpArgs false
set_option linter.unusedVariables false

theorem rpSection_one {w : World} {B : Nat} {s : Section} {cs : List Value} (h : rpSection.rep w B s cs) : ∀ u ∈ cs, u.oneCell' = true := by
  obtain ⟨v1, v2, rfl, h1, h2⟩ := rpSection_rep h
  obtain ⟨A1, c1, rfl, _⟩ := h1.cases_
  obtain ⟨A2, c2, rfl, _⟩ := h2.cases_
  simp [Value.oneCell']
/-- A row of the call's own, from base on, whose cells are those of sections that lie in an older world. -/
def Cat (base : Nat) (w0 w : World) (v : Value) (xs : List Section) : Prop :=
  w0.heap.size ≤ base ∧ ∃ css : List (List Value), css.length = xs.length ∧ w.ownsRow base 53 3 v xs.length css.flatten ∧ ∀ (k : Nat) x cs, xs[k]? = some x → css[k]? = some cs → rpSection.rep w0 w0.heap.size x cs
theorem Cat.nil {base : Nat} (w0 w : World) (hB : w0.heap.size ≤ base) : Cat base w0 w (.slice none 0 0) [] := ⟨hB, [], rfl, World.ownsRow_nil _ _ _ _, fun k x cs h => by simp at h⟩
theorem Cat.of_own {w0 w : World} {v : Value} (h : w.ownsRow w0.heap.size 53 3 v 0 []) : Cat w0.heap.size w0 w v [] := ⟨Nat.le_refl _, [], rfl, h, fun k x cs h => by simp at h⟩
theorem Cat.below {base : Nat} {w0 w w' : World} {v : Value} {xs : List Section} (h : Cat base w0 w v xs) (hb : Below w.heap.size w w') : Cat base w0 w' v xs := by
  obtain ⟨hB, css, h1, h2, h3⟩ := h
  exact ⟨hB, css, h1, own_below h2 hb, h3⟩
theorem Cat.set {base : Nat} {w0 w : World} {v : Value} {xs : List Section} (h : Cat base w0 w v xs) (p : Addr) (hp : p.block < base) (u : Value) : Cat base w0 (w.setCell p u) v xs := by
  obtain ⟨hB, css, h1, h2, h3⟩ := h
  exact ⟨hB, css, h1, ownsRow_setCell_below h2 hp u, h3⟩
theorem Cat.slice {base : Nat} {w0 w : World} {v : Value} {xs : List Section} (h : Cat base w0 w v xs) : ∃ A c, v = .slice A xs.length c ∧ xs.length ≤ c := by
  obtain ⟨hB, css, h1, ⟨_, h2⟩, h3⟩ := h
  rcases h2 with ⟨rfl, hn⟩ | ⟨g, cap, cur, rfl, _, hh, hnc, hcm, hcs, htk⟩
  · exact ⟨none, 0, by rw [hn], by omega⟩
  · exact ⟨_, _, rfl, hnc⟩
theorem Cat.lt {base : Nat} {w0 w : World} {v : Value} {xs : List Section} (h : Cat base w0 w v xs) : ∀ k, v.ownBlock = some k → base ≤ k ∧ k < w.heap.size := by
  obtain ⟨hB, css, h1, h2, h3⟩ := h
  exact fun k hk => h2.lt k hk
theorem Cat.SL {base : Nat} {w0 w : World} {v : Value} {xs : List Section} (h : Cat base w0 w v xs) (hb : Below w0.heap.size w0 w) : rpSection.SL w w.heap.size xs v := by
  obtain ⟨hB, css, h1, h2, h3⟩ := h
  refine Built.SL (base := base) (e := 53) (X := fun _ => False) (css := css) ⟨h1, h2, fun k x cs hx hc => ?_, fun k h => h.elim⟩ (Nat.le_refl _)
  exact Apart.of_old (h3 k x cs hx hc) hb.size hb (fun _ h => h.elim) (fun g hg => Nat.le_trans hB (h2.lt g hg).1)
theorem run_sec_nought {t ty : TypeId} (ht : Tryd.prog.underlying t = some (.slice 53)) {w : World} {A A1 : Option Addr} {n c c1 : Nat} (h : n ≤ c1) : (Builtin.append_ #[t, t] ty #[.slice A1 n c1, .slice A 0 c]).run Tryd.prog w = .ok (.slice A1 n c1) w := by
  obtain ⟨iB, hi, zb0, zb1, zb2⟩ := info_parts info_Section
  cases A <;> cases A1 <;> simp [Builtin.append_, run_underlying ht, sizeOf, typeInfo, hi, Builtin.lenOf, h, Builtin.firstCells, loadCells, loadCellsFrom, storeCells]
theorem run_app_cat {t ty : TypeId} (ht : Tryd.prog.underlying t = some (.slice 53)) {base : Nat} {w0 w : World} {v u : Value} {xs ys : List Section} (hc : Cat base w0 w v xs) (hu : rpSection.SL w0 w0.heap.size ys u) (hb : Below w0.heap.size w0 w) (hbs : base ≤ w.heap.size) (hlen : xs.length + ys.length ≤ 1048576) :
    ∃ v' w', (Builtin.append_ #[t, t] ty #[v, u]).run Tryd.prog w = .ok v' w' ∧ Cat base w0 w' v' (xs ++ ys) ∧ Below w0.heap.size w0 w' ∧ w.heap.size ≤ w'.heap.size ∧ ∀ k, k < w.heap.size → v.ownBlock ≠ some k → w'.heap[k]? = w.heap[k]? := by
  obtain ⟨iS, hi, zb0, zb1, zb2⟩ := info_parts info_Section
  obtain ⟨A, c, rfl, hm, hcap, hu⟩ := hu.cases_
  rcases Nat.eq_zero_or_pos ys.length with h0 | hpos
  · have hx := List.eq_nil_of_length_eq_zero h0
    subst hx
    obtain ⟨A1, c1, rfl, hc1⟩ := hc.slice
    exact ⟨_, w, run_sec_nought ht hc1, by simpa using hc, hb, Nat.le_refl _, fun _ _ _ => rfl⟩
  · obtain ⟨b, off, _, hA, _⟩ := hu.at_ (List.getElem?_eq_getElem hpos)
    subst hA
    obtain ⟨css2, l1, l2, l3, l4⟩ := hu.rows (by decide)
    obtain ⟨hB, css, h1, h2, h3⟩ := hc
    obtain ⟨v', w', hr, k2, k3, _⟩ := run_append_own (P := Tryd.prog) w base t ty 53 iS _ 3 64 ht hi zb0 zb1 zb2 rfl (by decide) v xs.length css.flatten h2 ⟨b, off, none⟩ ys.length c css2.flatten l2
      (fun j u hj => by
        have := l4 j u hj
        have hlt := World.block_lt_of_cell? w0 _ this
        exact (hb.cell hlt).trans this)
      (fun u hu => by
        obtain ⟨cs, hcs, hu⟩ := List.mem_flatten.1 hu
        obtain ⟨k, hk, e⟩ := List.mem_iff_getElem.1 hcs
        have hk' : k < ys.length := by omega
        exact rpSection_one (l3 k _ cs (List.getElem?_eq_getElem hk') (by rw [List.getElem?_eq_getElem hk, e])) u hu) (by unfold maxLen; omega) (by omega) hbs
    refine ⟨v', w', hr, ⟨hB, css ++ css2, by simp [h1, l1], by rw [List.length_append, List.flatten_append]; exact k2, fun k x cs hx hcs => ?_⟩, hb.grown k3 hb.size (fun j hj => Nat.le_trans hB (h2.lt j hj).1), k3.size, fun k hk hne => k3.block k hk (fun e => hne e.symm)⟩
    rcases Nat.lt_or_ge k xs.length with hk | hk
    · rw [List.getElem?_append_left hk] at hx
      rw [List.getElem?_append_left (by omega)] at hcs
      exact h3 k x cs hx hcs
    · rw [List.getElem?_append_right hk] at hx
      rw [List.getElem?_append_right (by omega), h1] at hcs
      exact l3 _ x cs hx hcs
theorem wp_app_cat (w : World) {o : Oper} {a : Act} {K : Act → World → Prop} {Q : Exit → Act → World → Prop} (s x : Operand) (t : TypeId) (ho : o.op = .call { callee := .builtin .append, args := #[s, x], argTypes := #[t, t] })
    (ht : Tryd.prog.underlying t = some (.slice 53)) {base : Nat} {w0 : World} {v u : Value} {xs ys : List Section} (hs : a.eval s = v) (hc : Cat base w0 w v xs) (hx : a.eval x = u) (hu : rpSection.SL w0 w0.heap.size ys u) (hb : Below w0.heap.size w0 w) (hbs : base ≤ w.heap.size) (hlen : xs.length + ys.length ≤ 1048576)
    (h : ∀ v' w', Cat base w0 w' v' (xs ++ ys) → Below w0.heap.size w0 w' → w.heap.size ≤ w'.heap.size → (∀ k, k < w.heap.size → v.ownBlock ≠ some k → w'.heap[k]? = w.heap[k]?) → K (a.put o.dst v') w') : o.wp Tryd.prog a w K Q := by
  obtain ⟨v', w', hr, h2, h3, h4, h5⟩ := run_app_cat (ty := o.type) ht hc hu hb hbs hlen
  unfold Oper.wp execOp
  simp only [ho, resolve, invoke, builtin, Sem.run_bind, Sem.run_pure, Result.andThen_ok, List.map_toArray, List.map_cons, List.map_nil, hs, hx, hr]
  exact h v' w' h2 h3 h4 h5
theorem wpList_app_cat (w : World) {ops : Array Oper} {rest : List Oper} {o : Oper} {a : Act} {Q : Exit → Act → World → Prop} (hgd : o.guard = none) (s x : Operand) (t : TypeId) (ho : o.op = .call { callee := .builtin .append, args := #[s, x], argTypes := #[t, t] })
    (ht : Tryd.prog.underlying t = some (.slice 53)) {base : Nat} {w0 : World} {v u : Value} {xs ys : List Section} (hs : a.eval s = v) (hc : Cat base w0 w v xs) (hx : a.eval x = u) (hu : rpSection.SL w0 w0.heap.size ys u) (hb : Below w0.heap.size w0 w) (hbs : base ≤ w.heap.size) (hlen : xs.length + ys.length ≤ 1048576)
    (h : ∀ v' w', Cat base w0 w' v' (xs ++ ys) → Below w0.heap.size w0 w' → w.heap.size ≤ w'.heap.size → (∀ k, k < w.heap.size → v.ownBlock ≠ some k → w'.heap[k]? = w.heap[k]?) → wpList Tryd.prog ops Q rest (a.put o.dst v') w') : wpList Tryd.prog ops Q (o :: rest) a w :=
  wpList_plain hgd fun _ hK => wp_app_cat w s x t ho ht hs hc hx hu hb hbs hlen fun v' w' h2 h3 h4 h5 => hK _ _ (h v' w' h2 h3 h4 h5)
theorem step_app_cat (w : World) {ops : Array Oper} {o : Oper} {a : Act} {K : Act → World → Prop} {Q : Exit → Act → World → Prop} {E : Prop} (hgd : o.guard = none) (s x : Operand) (t : TypeId) (ho : o.op = .call { callee := .builtin .append, args := #[s, x], argTypes := #[t, t] })
    (ht : Tryd.prog.underlying t = some (.slice 53)) {base : Nat} {w0 : World} {v u : Value} {xs ys : List Section} (hs : a.eval s = v) (hc : Cat base w0 w v xs) (hx : a.eval x = u) (hu : rpSection.SL w0 w0.heap.size ys u) (hb : Below w0.heap.size w0 w) (hbs : base ≤ w.heap.size) (hlen : xs.length + ys.length ≤ 1048576)
    (h : ∀ v' w', Cat base w0 w' v' (xs ++ ys) → Below w0.heap.size w0 w' → w.heap.size ≤ w'.heap.size → (∀ k, k < w.heap.size → v.ownBlock ≠ some k → w'.heap[k]? = w.heap[k]?) → K (a.put o.dst v') w') :
    if Region.wanted o (yielded ops a.tmps) = true then Oper.wp Tryd.prog o a w K Q else E := by
  have hw : Region.wanted o (yielded ops a.tmps) = true := by simp [Region.wanted, hgd]
  rw [if_pos hw]
  exact wp_app_cat w s x t ho ht hs hc hx hu hb hbs hlen h

set_option maxRecDepth 100000 in
set_option maxHeartbeats 4000000 in
theorem Grow_calls (n : Nat) (hn : n ≤ 1048576) (w : World) (R : Ending → World → Prop)
    (hR : ∀ w' v', Below w.heap.size w w' → w'.ownsRow w.heap.size 53 3 v' 0 [] → R (.returned v') w') :
    Calls Tryd.prog 77 #[.slice none 0 0, .int .i64 (n : Nat)] w R := by
  have HR := Lib.hid hR
  clear hR
  obtain ⟨iS, hi, zb0, zb1, zb2⟩ := info_parts info_Section
  have i0 : (0 : Int) ≤ (n : Int) := by omega
  have i2 : IntKind.i64.wrap ((n : Int) - 0) = (n : Int) := by rw [Int.sub_zero]; exact IntWalk.i64_in _ (by omega)
  have i3 : IntKind.i64.wrap (n : Int) = (n : Int) := IntWalk.i64_in _ (by omega)
  rcases Nat.eq_zero_or_pos n with h0 | hp
  · subst h0
    go_enter Tryd.func77, Tryd.ntmps77
    go_wp2
    exact HR.out _ _ (Below.refl _ _) (World.ownsRow_nil _ _ _ _)
  · have happ := Lib.run_append_nil_zeros (P := Tryd.prog) w 23 3 23 53 iS _ .i64 .i64 Tryd.underlying23 Tryd.underlying3 hi zb0 n hp (by rw [zb1]; decide) (by omega) (by rw [zb2]; omega)
    have hge := grownCap_ge w n 0 53
    have hcm := grownCap_le_maxLen w n 0 53 (by unfold maxLen; omega)
    have i1 : (0 : Int) < (n : Int) := by omega
    generalize hcap : grownCap w n 0 53 = cap at *
    generalize hZ : (Builtin.zeroCells (Value.agg #[Value.string ByteArray.empty, Value.slice none 0 0, Value.slice none 0 0]).cells n ++ Builtin.zeroCells (Value.agg #[Value.string ByteArray.empty, Value.slice none 0 0, Value.slice none 0 0]).cells (cap - n)) = Z at happ
    have hZs : Z.size = cap * 3 := by rw [← hZ]; simp [size_zeroCells, Value.cells]; omega
    have hfin := HR.out (w.drew.alloc (.cells Z 53)) (.slice (some ⟨w.heap.size, 0, none⟩) 0 cap) ((Below.refl _ _).drew.alloc (Nat.le_refl _) _) ⟨rfl, .inr ⟨w.heap.size, cap, Z, rfl, Nat.le_refl _, heap_alloc_new w.drew _, Nat.zero_le _, hcm, hZs, rfl⟩⟩
    have Hfin := Lib.hid hfin
    have i4 : (0 : Int) ≤ (cap : Int) := by omega
    clear hfin hZ hcap
    go_enter Tryd.func77, Tryd.ntmps77
    go_wp2_with (at_builtin; refine Lib.wpList_append_run _ rfl _ _ _ _ rfl _ _ rfl rfl _ _ happ ?_)
    go_wp2
    exact Hfin.out

theorem Grow_callsI (n : Nat) (hn : n ≤ 1048576) (z : Int) (hz : z = (n : Int)) (w : World) (R : Ending → World → Prop)
    (hR : ∀ w' v', Below w.heap.size w w' → w'.ownsRow w.heap.size 53 3 v' 0 [] → R (.returned v') w') :
    Calls Tryd.prog 77 #[.slice none 0 0, .int .i64 z] w R := by
  subst hz
  exact Grow_calls n hn w R hR

set_option maxRecDepth 100000 in
set_option maxHeartbeats 4000000 in
theorem Concat_calls (xs ys : List Section) (v1 v2 : Value) (b : Nat) (T : TypeId) (w : World) (h : w.heap[b]? = some (.cells #[v1, v2] T (0, 0))) (h1 : rpSection.SL w w.heap.size xs v1) (h2 : rpSection.SL w w.heap.size ys v2) (hlen : xs.length + ys.length ≤ 1048576) (R : Ending → World → Prop)
    (hR : ∀ w' v', Below w.heap.size w w' → rpSection.SL w' w'.heap.size (xs ++ ys) v' → R (.returned v') w') :
    Calls Tryd.prog 37 #[.slice (some ⟨b, 0, none⟩) 2 2] w R := by
  obtain ⟨A1, n1, rfl, hm1, hcap1, h1⟩ := h1.cases_
  obtain ⟨A2, n2, rfl, hm2, hcap2, h2⟩ := h2.cases_
  obtain ⟨c0, c1⟩ := cells_blk h
  have hbl := blk_lt h
  have HR := Lib.hid hR
  have H := Lib.hid h
  have H1 := Lib.hid h1
  have H2 := Lib.hid h2
  have i1 : IntKind.i64.wrap ((xs.length : Int) + (ys.length : Int)) = (xs.length : Int) + (ys.length : Int) := IntWalk.i64_in _ (by omega)
  have i2 : IntKind.i64.wrap (0 + (xs.length : Int)) = (xs.length : Int) := by rw [Int.zero_add]; exact IntWalk.i64_in _ (by omega)
  have i2' : IntKind.i64.wrap (xs.length : Int) = (xs.length : Int) := IntWalk.i64_in _ (by omega)
  have i3 : ¬ (xs.length : Int) < 0 := by omega
  have i4 : ¬ (xs.length : Int) + (ys.length : Int) < 0 := by omega
  clear hR h h1 h2
  go_enter Tryd.func37, Tryd.ntmps37
  go_wp2
  go_loopg [3, 5, 11] 2 (fun g sz s5 i wr => wr = w ∧ ((g = 2 ∧ sz = .int .i64 0 ∧ i = .int .i64 0) ∨ (g = 1 ∧ sz = .int .i64 (xs.length : Int) ∧ i = .int .i64 1) ∨ (g = 0 ∧ sz = .int .i64 ((xs.length : Int) + (ys.length : Int)) ∧ i = .int .i64 2)))
  case atStart => exact ⟨rfl, .inl ⟨rfl, rfl, rfl⟩⟩
  case round =>
    obtain ⟨rfl, ⟨rfl, rfl, rfl⟩ | ⟨rfl, rfl, rfl⟩ | ⟨rfl, rfl, rfl⟩⟩ := hrel
    · go_wp2
      go_roundg 1
      case measure => omega
      case rel => exact ⟨rfl, .inr (.inl ⟨rfl, rfl, rfl⟩)⟩
    · go_wp2
      go_roundg 0
      case measure => omega
      case rel => exact ⟨rfl, .inr (.inr ⟨rfl, rfl, rfl⟩)⟩
    · clear i1
      go_wp2_with fail
      refine Grow_callsI (xs.length + ys.length) hlen _ (by omega) _ _ (fun w1 v1 hb1 hown1 => ?_)
      have hc := Cat.of_own hown1
      clear hown1
      obtain ⟨k0, k1⟩ := cells_blk ((hb1.block _ hbl).trans H.out)
      go_wp2
      go_loopg [6, 8, 27] 2 (fun g v s8 i wr2 => Below wr.heap.size wr wr2 ∧ ((g = 2 ∧ Cat wr.heap.size wr wr2 v [] ∧ i = .int .i64 0) ∨ (g = 1 ∧ Cat wr.heap.size wr wr2 v xs ∧ i = .int .i64 1) ∨ (g = 0 ∧ Cat wr.heap.size wr wr2 v (xs ++ ys) ∧ i = .int .i64 2)))
      case atStart => exact ⟨hb1, .inl ⟨rfl, hc, rfl⟩⟩
      case round =>
        obtain ⟨hb2, ⟨rfl, hc, rfl⟩ | ⟨rfl, hc, rfl⟩ | ⟨rfl, hc, rfl⟩⟩ := hrel
        · obtain ⟨k0, k1⟩ := cells_blk ((hb2.block _ hbl).trans H.out)
          obtain ⟨A5, c5, rfl, hc5⟩ := hc.slice
          go_wp2_with (at_builtin; refine wpList_app_cat _ rfl _ _ 23 rfl Tryd.underlying23 rfl hc rfl H1.out hb2 hb2.size (by simp; omega) ?_)
          intro v' w' hc' hb' _ _
          go_wp2
          go_roundg 1
          case measure => omega
          case rel => exact ⟨hb', .inr (.inl ⟨rfl, by simpa using hc', rfl⟩)⟩
        · obtain ⟨k0, k1⟩ := cells_blk ((hb2.block _ hbl).trans H.out)
          obtain ⟨A5, c5, rfl, hc5⟩ := hc.slice
          go_wp2_with (at_builtin; refine wpList_app_cat _ rfl _ _ 23 rfl Tryd.underlying23 rfl hc rfl H2.out hb2 hb2.size hlen ?_)
          intro v' w' hc' hb' _ _
          go_wp2
          go_roundg 0
          case measure => omega
          case rel => exact ⟨hb', .inr (.inr ⟨rfl, hc', rfl⟩)⟩
        · have hfin := Lib.hid (HR.out _ _ hb2 (hc.SL hb2))
          clear hc hb2
          go_wp2
          exact hfin.out
end Go.Proofs.YtkodcoianakjoaaDoor
