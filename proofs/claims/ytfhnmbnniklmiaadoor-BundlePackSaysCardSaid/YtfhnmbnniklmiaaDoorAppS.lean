/- append onto a row of names of the call's own, from any slice of names: the laws for the walk. -/
import Derived.Test.YtfhnmbnniklmiaaDoorBase
import Derived.Test.YtfhnmbnniklmiaaDoorRows
import Derived.IntWalk
import Derived.Maps.AppendAt
import Derived.Laws.AppendOwnNone
import Derived.Test.YtfhnmbnniklmiaaDoorAppA
import Derived.Test.YtfhnmbnniklmiaaDoorLinkW
namespace Go.Proofs.YtfhnmbnniklmiaaDoor
open Go.RowKit
set_option linter.unusedSimpArgs false
set_option linter.unusedVariables false

theorem str_flat_len (l : List ByteArray) : (l.flatMap strCells).length = l.length := by
  have := flat_length strCells 1 (fun _ => rfl) l
  omega
theorem one_str (l : List ByteArray) : ∀ u ∈ l.flatMap strCells, u.oneCell' = true := fun u hu => by
  obtain ⟨x, _, hx⟩ := List.mem_flatMap.1 hu
  have : u = .string x := by simpa [strCells] using hx
  subst this
  rfl
theorem run_strs_nought {t ty : TypeId} (ht : Tryd.prog.underlying t = some (.slice 9)) {w : World} {A A1 : Option Addr} {n c c1 : Nat} (h : n ≤ c1) : (Builtin.append_ #[t, t] ty #[.slice A1 n c1, .slice A 0 c]).run Tryd.prog w = .ok (.slice A1 n c1) w := by
  obtain ⟨iB, hi, zb0, zb1, zb2⟩ := info_parts info_string
  cases A <;> cases A1 <;> simp [Builtin.append_, run_underlying ht, sizeOf, typeInfo, hi, Builtin.lenOf, h, Builtin.firstCells, loadCells, loadCellsFrom, storeCells]
theorem own_cap {w : World} {base : Nat} {e : TypeId} {size n c : Nat} {A : Option Addr} {xs : List Value} (h : w.ownsRow base e size (.slice A n c) n xs) : n ≤ c := by
  rcases h.2 with ⟨h, h0⟩ | ⟨_, _, _, h, _, _, h1, _⟩
  · injection h with _ _ h
    omega
  · injection h with _ _ h
    omega
theorem run_app_strs {t ty : TypeId} (ht : Tryd.prog.underlying t = some (.slice 9)) {w : World} {base B : Nat} {v u : Value} {xs ys : List ByteArray} (hb : w.ownsRow base 9 1 v xs.length (xs.flatMap strCells)) (hu : rpStr.SL w B ys u) (hlen : xs.length + ys.length ≤ 1000000) (hbase : base ≤ w.heap.size) :
    ∃ v' w', (Builtin.append_ #[t, t] ty #[v, u]).run Tryd.prog w = .ok v' w' ∧ w'.ownsRow base 9 1 v' (xs ++ ys).length ((xs ++ ys).flatMap strCells) ∧ Grew (fun k => v.ownBlock = some k) w w' ∧ Came w v v' := by
  obtain ⟨iB, hi, zb0, zb1, zb2⟩ := info_parts info_string
  obtain ⟨A, c, rfl, hm, hcap, hu⟩ := hu.cases_
  rcases Nat.eq_zero_or_pos ys.length with h0 | hpos
  · have hx := List.eq_nil_of_length_eq_zero h0
    subst hx
    obtain ⟨A1, c1, rfl⟩ := own_slice hb
    exact ⟨_, w, run_strs_nought ht (own_cap hb), by simpa using hb, Grew.refl _ _, Came.refl _ _⟩
  · obtain ⟨b, off, _, hA, _⟩ := hu.at_ (List.getElem?_eq_getElem hpos)
    subst hA
    have hnews := hu.news (r := rpStr) (f := strCells) (fun _ _ _ _ h => h) (fun _ => rfl) (by decide)
    obtain ⟨v', w', hr, h2, h3, _, h5⟩ := run_append_own_at (P := Tryd.prog) w base t ty 9 iB _ 1 16 ht hi zb0 zb1 zb2 rfl (by decide) v xs.length (xs.flatMap strCells) hb ⟨b, off, none⟩ ys.length c (ys.flatMap strCells) (flat_length strCells 1 (fun _ => rfl) ys)
      hnews (one_str ys) (by unfold maxLen; omega) (by omega) hbase
    refine ⟨v', w', hr, ?_, Grew.of_grown h3, came_of_at h5⟩
    rw [List.flatMap_append, List.length_append]
    exact h2

/-- At the operation. -/
theorem wp_app_strs (w : World) {o : Oper} {a : Act} {K : Act → World → Prop} {Q : Exit → Act → World → Prop} (s x : Operand) (t : TypeId) (ho : o.op = .call { callee := .builtin .append, args := #[s, x], argTypes := #[t, t] })
    (ht : Tryd.prog.underlying t = some (.slice 9)) {base : Nat} {v u : Value} {xs ys : List ByteArray} (hs : a.eval s = v) (hb : w.ownsRow base 9 1 v xs.length (xs.flatMap strCells)) (hx : a.eval x = u) {B : Nat} (hu : rpStr.SL w B ys u) (hlen : xs.length + ys.length ≤ 1000000) (hbase : base ≤ w.heap.size)
    (h : ∀ v' w', w'.ownsRow base 9 1 v' (xs ++ ys).length ((xs ++ ys).flatMap strCells) → Grew (fun k => v.ownBlock = some k) w w' → Came w v v' → K (a.put o.dst v') w') : o.wp Tryd.prog a w K Q := by
  obtain ⟨v', w', hr, h2, h3, h4⟩ := run_app_strs (ty := o.type) ht hb hu hlen hbase
  unfold Oper.wp execOp
  simp only [ho, resolve, invoke, builtin, Sem.run_bind, Sem.run_pure, Result.andThen_ok, List.map_toArray, List.map_cons, List.map_nil, hs, hx, hr]
  exact h v' w' h2 h3 h4
theorem wpList_app_strs (w : World) {ops : Array Oper} {rest : List Oper} {o : Oper} {a : Act} {Q : Exit → Act → World → Prop} (hgd : o.guard = none) (s x : Operand) (t : TypeId) (ho : o.op = .call { callee := .builtin .append, args := #[s, x], argTypes := #[t, t] })
    (ht : Tryd.prog.underlying t = some (.slice 9)) {base : Nat} {v u : Value} {xs ys : List ByteArray} (hs : a.eval s = v) (hb : w.ownsRow base 9 1 v xs.length (xs.flatMap strCells)) (hx : a.eval x = u) {B : Nat} (hu : rpStr.SL w B ys u) (hlen : xs.length + ys.length ≤ 1000000) (hbase : base ≤ w.heap.size)
    (h : ∀ v' w', w'.ownsRow base 9 1 v' (xs ++ ys).length ((xs ++ ys).flatMap strCells) → Grew (fun k => v.ownBlock = some k) w w' → Came w v v' → wpList Tryd.prog ops Q rest (a.put o.dst v') w') : wpList Tryd.prog ops Q (o :: rest) a w :=
  wpList_plain hgd fun _ hK => wp_app_strs w s x t ho ht hs hb hx hu hlen hbase fun v' w' h2 h3 h4 => hK _ _ (h v' w' h2 h3 h4)
theorem step_app_strs (w : World) {ops : Array Oper} {o : Oper} {a : Act} {K : Act → World → Prop} {Q : Exit → Act → World → Prop} {E : Prop} (hgd : o.guard = none) (s x : Operand) (t : TypeId) (ho : o.op = .call { callee := .builtin .append, args := #[s, x], argTypes := #[t, t] })
    (ht : Tryd.prog.underlying t = some (.slice 9)) {base : Nat} {v u : Value} {xs ys : List ByteArray} (hs : a.eval s = v) (hb : w.ownsRow base 9 1 v xs.length (xs.flatMap strCells)) (hx : a.eval x = u) {B : Nat} (hu : rpStr.SL w B ys u) (hlen : xs.length + ys.length ≤ 1000000) (hbase : base ≤ w.heap.size)
    (h : ∀ v' w', w'.ownsRow base 9 1 v' (xs ++ ys).length ((xs ++ ys).flatMap strCells) → Grew (fun k => v.ownBlock = some k) w w' → Came w v v' → K (a.put o.dst v') w') :
    if Region.wanted o (yielded ops a.tmps) = true then Oper.wp Tryd.prog o a w K Q else E := by
  have hw : Region.wanted o (yielded ops a.tmps) = true := by simp [Region.wanted, hgd]
  rw [if_pos hw]
  exact wp_app_strs w s x t ho ht hs hb hx hu hlen hbase h
/-- A row of names that lies in another block stays as it was. -/
theorem own_grew {X : Nat → Prop} {w w' : World} {base : Nat} {e : TypeId} {size n : Nat} {v : Value} {xs : List Value} (h : w.ownsRow base e size v n xs) (hg : Grew X w w') (hX : ∀ k, v.ownBlock = some k → ¬ X k) : w'.ownsRow base e size v n xs := by
  have hl := h.lt
  obtain ⟨h1, h2⟩ := h
  refine ⟨h1, ?_⟩
  rcases h2 with h2 | ⟨g, cap, cur, hv, hb, hh, r⟩
  · exact .inl h2
  · have e : v.ownBlock = some g := by rw [hv]; rfl
    exact .inr ⟨g, cap, cur, hv, hb, (hg.block g (hl g e).2 (hX g e)).trans hh, r⟩
end Go.Proofs.YtfhnmbnniklmiaaDoor
