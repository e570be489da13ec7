/- append onto a row of bytes of the call's own, from any slice of bytes or from a text: the laws for the walk. -/
import Derived.Test.YtkodcoianakjoaaDoorLib
import Derived.Test.YtkodcoianakjoaaDoorRows
import Derived.IntWalk
import Derived.Maps.AppendAt
import Derived.Laws.AppendOwnNone
import Derived.Lib.AppendStr
import Derived.Test.YtkodcoianakjoaaDoorLib7
import Derived.Test.YtkodcoianakjoaaDoorBytes1
namespace Go.Proofs.YtkodcoianakjoaaDoor
open Go.RowKit
set_option linter.unusedSimpArgs false
set_option linter.unusedVariables false

theorem came_of_at {w : World} {v v' : Value} (h : v'.ownBlock = v.ownBlock ∨ v'.ownBlock = some w.heap.size) : Came w v v' := fun g hg => by
  rcases h with h | h
  · exact .inl (by rw [← h]; exact hg)
  · right
    rw [hg] at h
    exact Nat.le_of_eq (Option.some.inj h).symm

/-- Where nothing is appended the value stays. -/
theorem run_app_nought {t ty : TypeId} (ht : Tryd.prog.underlying t = some (.slice 5)) {w : World} {A A1 : Option Addr} {n c c1 : Nat} (h : n ≤ c1) : (Builtin.append_ #[t, t] ty #[.slice A1 n c1, .slice A 0 c]).run Tryd.prog w = .ok (.slice A1 n c1) w := by
  obtain ⟨iB, hi, zb0, zb1, zb2⟩ := info_parts info_byte
  cases A <;> cases A1 <;> simp [Builtin.append_, run_underlying ht, sizeOf, typeInfo, hi, Builtin.lenOf, h, Builtin.firstCells, loadCells, loadCellsFrom, storeCells]
theorem grown_buf {w : World} {base old n : Nat} {xs : List UInt8} (hbase : base ≤ w.heap.size) (hn : n = xs.length) (hm : n ≤ maxLen) :
    Buf (w.drew.alloc (.cells ((xs.flatMap byteCells).toArray ++ Builtin.zeroCells (Value.int .u8 0).cells (grownCap w n old 5 - n)) 5)) base (.slice (some ⟨w.heap.size, 0, none⟩) n (grownCap w n old 5)) xs := by
  subst hn
  have hge := grownCap_ge w xs.length old 5
  have hcm := grownCap_le_maxLen w xs.length old 5 hm
  have hfl := flat_length byteCells 1 (fun _ => rfl) xs
  refine .inl ⟨hfl, .inr ⟨w.heap.size, _, _, rfl, hbase, heap_alloc_new w.drew _, hge, hcm, ?_, ?_⟩⟩
  · have hz1 : (Value.int IntKind.u8 0).cells.size = 1 := rfl
    simp only [Array.size_append, List.size_toArray, size_zeroCells, hz1, hfl]
    omega
  · simp only [Array.toList_append]
    rw [← hfl]
    exact List.take_left
theorem run_app_buf {t ty : TypeId} (ht : Tryd.prog.underlying t = some (.slice 5)) {w : World} {base B : Nat} {v u : Value} {bs cs : List UInt8} (hb : Buf w base v bs) (hu : rpByte.SL w B cs u) (hlen : bs.length + cs.length ≤ 70368744177664) (hbase : base ≤ w.heap.size) :
    ∃ v' w', (Builtin.append_ #[t, t] ty #[v, u]).run Tryd.prog w = .ok v' w' ∧ Buf w' base v' (bs ++ cs) ∧ Grew (fun k => v.ownBlock = some k) w w' ∧ Came w v v' := by
  obtain ⟨iB, hi, zb0, zb1, zb2⟩ := info_parts info_byte
  obtain ⟨A, c, rfl, hm, hcap, hu⟩ := hu.cases_
  rcases Nat.eq_zero_or_pos cs.length with h0 | hpos
  · have hx := List.eq_nil_of_length_eq_zero h0
    subst hx
    obtain ⟨A1, c1, rfl⟩ := hb.slice
    exact ⟨_, w, run_app_nought ht hb.cap, by simpa using hb, Grew.refl _ _, Came.refl _ _⟩
  · obtain ⟨b, off, _, hA, _⟩ := hu.at_ (List.getElem?_eq_getElem hpos)
    subst hA
    have hnews := hu.news (r := rpByte) (f := byteCells) (fun _ _ _ _ h => h) (fun _ => rfl) (by decide)
    rcases hb with hb | ⟨hb0, hbm, g, cur, fr, rfl, hbg, hh, hc⟩
    · obtain ⟨v', w', hr, h2, h3, _, h5⟩ := run_append_own_at (P := Tryd.prog) w base t ty 5 iB _ 1 1 ht hi zb0 zb1 zb2 rfl (by decide) v bs.length (bs.flatMap byteCells) hb ⟨b, off, none⟩ cs.length c (cs.flatMap byteCells) (flat_length byteCells 1 (fun _ => rfl) cs)
        hnews (one_byte cs) (by unfold maxLen; omega) (by omega) hbase
      refine ⟨v', w', hr, .inl ?_, Grew.of_grown h3, came_of_at h5⟩
      rw [flat_bytes, List.length_append]
      exact h2
    · have holds : ∀ j u, (bs.flatMap byteCells)[j]? = some u → w.cell? ((⟨g, 0, none⟩ : Addr).add j) = some u := fun j u hj => by
        rw [← hc] at hj
        exact World.news_of_block hh j u hj
      have hr := run_append_grow (P := Tryd.prog) w t ty 5 iB _ ht hi zb0 ⟨g, 0, none⟩ bs.length bs.length (bs.flatMap byteCells) (by rw [zb1]; exact flat_length byteCells 1 (fun _ => rfl) bs) holds ⟨b, off, none⟩ cs.length c (cs.flatMap byteCells) (by rw [zb1]; exact flat_length byteCells 1 (fun _ => rfl) cs) hnews (by omega) (by omega) (by rw [zb2]; exact growslice_fits (by omega) (by omega))
      refine ⟨_, _, hr, ?_, ⟨rfl, rfl, rfl, by simp, fun k hk _ => Below.heap_alloc w.drew _ k hk⟩, fun k hk => .inr (Nat.le_of_eq (Option.some.inj hk))⟩
      have := grown_buf (w := w) (old := bs.length) (xs := bs ++ cs) (n := bs.length + cs.length) hbase (by rw [List.length_append]) (by unfold maxLen; omega)
      rw [flat_bytes, ← List.append_toArray] at this
      exact this

theorem strCells_flat (s : ByteArray) : Lib.strCells s = s.data.toList.flatMap byteCells := by
  unfold Lib.strCells byteCells
  induction s.data.toList with
  | nil => rfl
  | cons x xs ih => simp [ih]

theorem run_app_str {t ty : TypeId} (ht : Tryd.prog.underlying t = some (.slice 5)) {w : World} {base : Nat} {v : Value} {bs : List UInt8} {s : ByteArray} (hb : Buf w base v bs) (hlen : bs.length + s.size ≤ 70368744177664) (hbase : base ≤ w.heap.size) :
    ∃ v' w', (Builtin.append_ #[t, 9] ty #[v, .string s]).run Tryd.prog w = .ok v' w' ∧ Buf w' base v' (bs ++ s.data.toList) ∧ Grew (fun k => v.ownBlock = some k) w w' ∧ Came w v v' := by
  obtain ⟨iB, hi, zb0, zb1, zb2⟩ := info_parts info_byte
  have hsz : s.data.toList.length = s.size := by rw [Array.length_toList]; rfl
  rcases hb with hb | ⟨hb0, hbm, g, cur, fr, rfl, hbg, hh, hc⟩
  · obtain ⟨v', w', hr, h2, h3, h4⟩ := Lib.run_append_own_string (P := Tryd.prog) w base t 9 ty 5 iB ht Tryd.underlying9 hi zb0 zb1 zb2 v bs.length (bs.flatMap byteCells) hb s (by unfold maxLen; omega) (by omega) hbase
    refine ⟨v', w', hr, .inl ?_, Grew.of_grown h3, fun k hk => ?_⟩
    · rw [flat_bytes, List.length_append, hsz, ← strCells_flat]
      exact h2
    · -- where it lies
      rcases hb.2 with ⟨rfl, h0⟩ | ⟨g, cap, cur, rfl, hbg, hg, hnc, hcm, hcs, htake⟩
      · have hx : bs = [] := List.eq_nil_of_length_eq_zero h0
        subst hx
        obtain ⟨v2, w2, hr2, k2, _, _⟩ := Lib.run_append_own_string (P := Tryd.prog) w w.heap.size t 9 ty 5 iB ht Tryd.underlying9 hi zb0 zb1 zb2 (.slice none 0 0) 0 [] (World.ownsRow_nil _ _ _ _) s (by unfold maxLen; omega) (by omega) (Nat.le_refl _)
        have e := hr.symm.trans hr2
        injection e with e1 e2
        subst e1
        exact .inr (k2.lt k hk).1
      · by_cases hroom : bs.length + s.size ≤ cap
        · have hr2 := Lib.run_append_room_string (P := Tryd.prog) w t 9 ty 5 iB ht Tryd.underlying9 hi zb1 g bs.length cap cur hg s hroom (by omega)
          have e := hr.symm.trans hr2
          injection e with e1 e2
          subst e1
          exact .inl hk
        · have holds : ∀ j u, (bs.flatMap byteCells)[j]? = some u → w.cell? ((⟨g, 0, none⟩ : Addr).add j) = some u := World.ownsRow.cells hb (g := g) rfl
          have hr2 := Lib.run_append_grow_string (P := Tryd.prog) w t 9 ty 5 iB (.int .u8 0) ht Tryd.underlying9 hi zb0 ⟨g, 0, none⟩ bs.length cap (bs.flatMap byteCells) (by rw [zb1]; exact flat_length byteCells 1 (fun _ => rfl) bs) holds s (by omega) (by omega) (by rw [zb2]; exact growslice_fits (by omega) (by omega))
          have e := hr.symm.trans hr2
          injection e with e1 e2
          subst e1
          exact .inr (Nat.le_of_eq (Option.some.inj hk))
  · rcases Nat.eq_zero_or_pos s.size with h0 | hpos
    · have hx : s.data.toList = [] := List.eq_nil_of_length_eq_zero (by omega)
      refine ⟨_, w, ?_, by rw [hx]; simpa using .inr ⟨hb0, hbm, g, cur, fr, rfl, hbg, hh, hc⟩, Grew.refl _ _, Came.refl _ _⟩
      have hf := Lib.run_firstCells_string (P := Tryd.prog) (w := w) 1 s
      have hs0 : Lib.strCells s = [] := List.eq_nil_of_length_eq_zero (by rw [strCells_flat, hx]; rfl)
      rw [h0, hs0] at hf
      simp [Builtin.append_, run_underlying ht, run_underlying Tryd.underlying9, sizeOf, typeInfo, hi, zb1, Builtin.lenOf, h0, hf, storeCells]
    · have holds : ∀ j u, (bs.flatMap byteCells)[j]? = some u → w.cell? ((⟨g, 0, none⟩ : Addr).add j) = some u := fun j u hj => by
        rw [← hc] at hj
        exact World.news_of_block hh j u hj
      have hr := Lib.run_append_grow_string (P := Tryd.prog) w t 9 ty 5 iB (.int .u8 0) ht Tryd.underlying9 hi zb0 ⟨g, 0, none⟩ bs.length bs.length (bs.flatMap byteCells) (by rw [zb1]; exact flat_length byteCells 1 (fun _ => rfl) bs) holds s (by omega) (by omega) (by rw [zb2]; exact growslice_fits (by omega) (by omega))
      refine ⟨_, _, hr, ?_, ⟨rfl, rfl, rfl, by simp, fun k hk _ => Below.heap_alloc w.drew _ k hk⟩, fun k hk => .inr (Nat.le_of_eq (Option.some.inj hk))⟩
      have := grown_buf (w := w) (old := bs.length) (xs := bs ++ s.data.toList) (n := bs.length + s.size) hbase (by rw [List.length_append, hsz]) (by unfold maxLen; omega)
      rw [flat_bytes, ← List.append_toArray, ← strCells_flat] at this
      exact this

/-- At the operation. -/
theorem wp_app_buf (w : World) {o : Oper} {a : Act} {K : Act → World → Prop} {Q : Exit → Act → World → Prop} (s x : Operand) (t : TypeId) (ho : o.op = .call { callee := .builtin .append, args := #[s, x], argTypes := #[t, t] })
    (ht : Tryd.prog.underlying t = some (.slice 5)) {base : Nat} {v u : Value} {bs cs : List UInt8} (hs : a.eval s = v) (hb : Buf w base v bs) (hx : a.eval x = u) {B : Nat} (hu : rpByte.SL w B cs u) (hlen : bs.length + cs.length ≤ 70368744177664) (hbase : base ≤ w.heap.size)
    (h : ∀ v' w', Buf w' base v' (bs ++ cs) → Grew (fun k => v.ownBlock = some k) w w' → Came w v v' → K (a.put o.dst v') w') : o.wp Tryd.prog a w K Q := by
  obtain ⟨v', w', hr, h2, h3, h4⟩ := run_app_buf (ty := o.type) ht hb hu hlen hbase
  unfold Oper.wp execOp
  simp only [ho, resolve, invoke, builtin, Sem.run_bind, Sem.run_pure, Result.andThen_ok, List.map_toArray, List.map_cons, List.map_nil, hs, hx, hr]
  exact h v' w' h2 h3 h4
theorem wpList_app_buf (w : World) {ops : Array Oper} {rest : List Oper} {o : Oper} {a : Act} {Q : Exit → Act → World → Prop} (hgd : o.guard = none) (s x : Operand) (t : TypeId) (ho : o.op = .call { callee := .builtin .append, args := #[s, x], argTypes := #[t, t] })
    (ht : Tryd.prog.underlying t = some (.slice 5)) {base : Nat} {v u : Value} {bs cs : List UInt8} (hs : a.eval s = v) (hb : Buf w base v bs) (hx : a.eval x = u) {B : Nat} (hu : rpByte.SL w B cs u) (hlen : bs.length + cs.length ≤ 70368744177664) (hbase : base ≤ w.heap.size)
    (h : ∀ v' w', Buf w' base v' (bs ++ cs) → Grew (fun k => v.ownBlock = some k) w w' → Came w v v' → wpList Tryd.prog ops Q rest (a.put o.dst v') w') : wpList Tryd.prog ops Q (o :: rest) a w :=
  wpList_plain hgd fun _ hK => wp_app_buf w s x t ho ht hs hb hx hu hlen hbase fun v' w' h2 h3 h4 => hK _ _ (h v' w' h2 h3 h4)
theorem step_app_buf (w : World) {ops : Array Oper} {o : Oper} {a : Act} {K : Act → World → Prop} {Q : Exit → Act → World → Prop} {E : Prop} (hgd : o.guard = none) (s x : Operand) (t : TypeId) (ho : o.op = .call { callee := .builtin .append, args := #[s, x], argTypes := #[t, t] })
    (ht : Tryd.prog.underlying t = some (.slice 5)) {base : Nat} {v u : Value} {bs cs : List UInt8} (hs : a.eval s = v) (hb : Buf w base v bs) (hx : a.eval x = u) {B : Nat} (hu : rpByte.SL w B cs u) (hlen : bs.length + cs.length ≤ 70368744177664) (hbase : base ≤ w.heap.size)
    (h : ∀ v' w', Buf w' base v' (bs ++ cs) → Grew (fun k => v.ownBlock = some k) w w' → Came w v v' → K (a.put o.dst v') w') :
    if Region.wanted o (yielded ops a.tmps) = true then Oper.wp Tryd.prog o a w K Q else E := by
  have hw : Region.wanted o (yielded ops a.tmps) = true := by simp [Region.wanted, hgd]
  rw [if_pos hw]
  exact wp_app_buf w s x t ho ht hs hb hx hu hlen hbase h

/-- At the operation. -/
theorem wp_app_str (w : World) {o : Oper} {a : Act} {K : Act → World → Prop} {Q : Exit → Act → World → Prop} (s x : Operand) (t : TypeId) (ho : o.op = .call { callee := .builtin .append, args := #[s, x], argTypes := #[t, 9] })
    (ht : Tryd.prog.underlying t = some (.slice 5)) {base : Nat} {v : Value} {bs : List UInt8} {st : ByteArray} (hs : a.eval s = v) (hb : Buf w base v bs) (hx : a.eval x = .string st) (hlen : bs.length + st.size ≤ 70368744177664) (hbase : base ≤ w.heap.size)
    (h : ∀ v' w', Buf w' base v' (bs ++ st.data.toList) → Grew (fun k => v.ownBlock = some k) w w' → Came w v v' → K (a.put o.dst v') w') : o.wp Tryd.prog a w K Q := by
  obtain ⟨v', w', hr, h2, h3, h4⟩ := run_app_str (ty := o.type) ht hb hlen hbase
  unfold Oper.wp execOp
  simp only [ho, resolve, invoke, builtin, Sem.run_bind, Sem.run_pure, Result.andThen_ok, List.map_toArray, List.map_cons, List.map_nil, hs, hx, hr]
  exact h v' w' h2 h3 h4
theorem wpList_app_str (w : World) {ops : Array Oper} {rest : List Oper} {o : Oper} {a : Act} {Q : Exit → Act → World → Prop} (hgd : o.guard = none) (s x : Operand) (t : TypeId) (ho : o.op = .call { callee := .builtin .append, args := #[s, x], argTypes := #[t, 9] })
    (ht : Tryd.prog.underlying t = some (.slice 5)) {base : Nat} {v : Value} {bs : List UInt8} {st : ByteArray} (hs : a.eval s = v) (hb : Buf w base v bs) (hx : a.eval x = .string st) (hlen : bs.length + st.size ≤ 70368744177664) (hbase : base ≤ w.heap.size)
    (h : ∀ v' w', Buf w' base v' (bs ++ st.data.toList) → Grew (fun k => v.ownBlock = some k) w w' → Came w v v' → wpList Tryd.prog ops Q rest (a.put o.dst v') w') : wpList Tryd.prog ops Q (o :: rest) a w :=
  wpList_plain hgd fun _ hK => wp_app_str w s x t ho ht hs hb hx hlen hbase fun v' w' h2 h3 h4 => hK _ _ (h v' w' h2 h3 h4)
theorem step_app_str (w : World) {ops : Array Oper} {o : Oper} {a : Act} {K : Act → World → Prop} {Q : Exit → Act → World → Prop} {E : Prop} (hgd : o.guard = none) (s x : Operand) (t : TypeId) (ho : o.op = .call { callee := .builtin .append, args := #[s, x], argTypes := #[t, 9] })
    (ht : Tryd.prog.underlying t = some (.slice 5)) {base : Nat} {v : Value} {bs : List UInt8} {st : ByteArray} (hs : a.eval s = v) (hb : Buf w base v bs) (hx : a.eval x = .string st) (hlen : bs.length + st.size ≤ 70368744177664) (hbase : base ≤ w.heap.size)
    (h : ∀ v' w', Buf w' base v' (bs ++ st.data.toList) → Grew (fun k => v.ownBlock = some k) w w' → Came w v v' → K (a.put o.dst v') w') :
    if Region.wanted o (yielded ops a.tmps) = true then Oper.wp Tryd.prog o a w K Q else E := by
  have hw : Region.wanted o (yielded ops a.tmps) = true := by simp [Region.wanted, hgd]
  rw [if_pos hw]
  exact wp_app_str w s x t ho ht hs hb hx hlen hbase h
end Go.Proofs.YtkodcoianakjoaaDoor
