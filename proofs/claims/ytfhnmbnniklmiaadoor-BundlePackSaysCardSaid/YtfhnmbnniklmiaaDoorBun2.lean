/- bundle.index: the names of all sections, in order, each with its object's place. -/
import Derived.Test.YtfhnmbnniklmiaaDoorBase
import Derived.Test.YtfhnmbnniklmiaaDoorRows
import Derived.IntWalk
import Derived.Deep.LoopGhost
import Derived.Deep.CutBlock
import Derived.Deep.DeepCutAuto
import Derived.Outline
import Derived.Test.YtfhnmbnniklmiaaDoorBun1
import Derived.Test.YtfhnmbnniklmiaaDoorLinkW
import Derived.Test.YtfhnmbnniklmiaaDoorLink3
namespace Go.Proofs.YtfhnmbnniklmiaaDoor
open Go.RowKit
set_option linter.unusedSimpArgs false
set_option linter.unusedVariables false

theorem pairs_step {l : List Object} {k : Nat} {o : Object} (h : l[k]? = some o) : pairsTo l (k + 1) = pairsTo l k ++ pairsAt o k := by rw [pairsTo, h]
theorem pairsAt_step {o : Object} {k j : Nat} {s : Section} (h : o.sections[j]? = some s) : (pairsAt o k).take (j + 1) = (pairsAt o k).take j ++ [(s.name, k)] := by
  obtain ⟨hj, e⟩ := List.getElem?_eq_some_iff.1 h
  unfold pairsAt
  rw [List.take_succ_eq_append_getElem (by rw [List.length_map]; exact hj), List.getElem_map, e]
theorem pairsTo_pre (l : List Object) : ∀ (d k : Nat), ∃ t, pairsTo l (k + d) = pairsTo l k ++ t
  | 0, k => ⟨[], by simp⟩
  | d + 1, k => by
    obtain ⟨t, ht⟩ := pairsTo_pre l d k
    rw [← Nat.add_assoc, pairsTo, ht, List.append_assoc]
    exact ⟨_, rfl⟩
theorem pairs_all {l : List Object} {k j : Nat} {o : Object} {s : Section} (h : l[k]? = some o) (hs : o.sections[j]? = some s) : ∃ t, pairsTo l l.length = pairsTo l k ++ (pairsAt o k).take j ++ (s.name, k) :: t := by
  have hk := (List.getElem?_eq_some_iff.1 h).1
  obtain ⟨hj, e⟩ := List.getElem?_eq_some_iff.1 hs
  obtain ⟨t, ht⟩ := pairsTo_pre l (l.length - (k + 1)) (k + 1)
  rw [show k + 1 + (l.length - (k + 1)) = l.length from by omega, pairs_step h] at ht
  refine ⟨(pairsAt o k).drop (j + 1) ++ t, ?_⟩
  have hd : (pairsAt o k).drop j = (s.name, k) :: (pairsAt o k).drop (j + 1) := by
    unfold pairsAt
    rw [List.drop_eq_getElem_cons (by rw [List.length_map]; exact hj), List.getElem_map, e]
  rw [ht, List.append_assoc, List.append_assoc, ← List.cons_append, ← hd, ← List.append_assoc ((pairsAt o k).take j), List.take_append_drop]
theorem pairs_dup {l : List Object} {k j : Nat} {o : Object} {s : Section} (h : l[k]? = some o) (hs : o.sections[j]? = some s) (hm : s.name ∈ (pairsTo l k ++ (pairsAt o k).take j).map Prod.fst) : ¬ ((pairsTo l l.length).map Prod.fst).Nodup := by
  obtain ⟨t, ht⟩ := pairs_all h hs
  rw [ht, List.map_append, List.nodup_append]
  rintro ⟨_, _, h3⟩
  exact h3 _ hm s.name (by simp) rfl
theorem pairs_few {l : List Object} {k j : Nat} {o : Object} {s : Section} (h : l[k]? = some o) (hs : o.sections[j]? = some s) : (pairsTo l k ++ (pairsAt o k).take j).length < (pairsTo l l.length).length := by
  obtain ⟨t, ht⟩ := pairs_all h hs
  rw [ht]
  simp only [List.length_append, List.length_cons]
  omega
theorem addE_nil_mem {ps : List (ByteArray × Nat)} {nm : ByteArray} : nm ∈ (addE [] ps).map Prod.fst ↔ nm ∈ ps.map Prod.fst := by
  constructor
  · intro h
    obtain ⟨x, hx, e⟩ := List.mem_map.1 h
    rcases mem_addE.1 hx with hx | hx
    · exact List.mem_map.2 ⟨x, hx, e⟩
    · cases hx
  · intro h
    obtain ⟨x, hx, e⟩ := List.mem_map.1 h
    exact List.mem_map.2 ⟨x, mem_addE.2 (.inl hx), e⟩
theorem nodup_snoc {ps : List (ByteArray × Nat)} {e : ByteArray × Nat} (h : (ps.map Prod.fst).Nodup) (hn : e.1 ∉ ps.map Prod.fst) : ((ps ++ [e]).map Prod.fst).Nodup := by
  rw [List.map_append, List.nodup_append]
  refine ⟨h, by simp, fun a ha b hb => ?_⟩
  have : b = e.1 := by simpa using hb
  subst this
  exact fun e' => hn (e' ▸ ha)

set_option maxRecDepth 100000 in
set_option maxHeartbeats 4000000 in
theorem index_calls (l : List Object) (v : Value) (w : World) (h : rpObject.SL w w.heap.size l v) (hfew : (pairsTo l l.length).length ≤ 100000) (R : Ending → World → Prop)
    (hgood : ((pairsTo l l.length).map Prod.fst).Nodup → ∀ w' v', Below w.heap.size w w' → w'.ownsRow w.heap.size 125 2 v' (idxL l).length ((idxL l).flatMap entCells) → R (.returned (.tuple #[v', .int .i64 (-1)])) w')
    (hdup : ¬ ((pairsTo l l.length).map Prod.fst).Nodup → ∀ (k : Nat) w', Below w.heap.size w w' → R (.returned (.tuple #[.slice none 0 0, .int .i64 (k : Int)])) w') :
    Calls Tryd.prog 70 #[v] w R := by
  obtain ⟨A, c, rfl, hm, hcap, h⟩ := h.cases_
  have Hgood := Lib.hid hgood
  have Hdup := Lib.hid hdup
  have H := Lib.hid h
  have Hfew := Lib.hid hfew
  clear hgood hdup h hfew
  go_enter Tryd.func70, Tryd.ntmps70
  go_wp2_with fail
  go_loopg [4, 5, 6, 8, 9, 10, 13] l.length (fun gh s4 s5 s6 s8 s9 s10 s13 wr => ∃ k : Nat, k ≤ l.length ∧ gh = l.length - k ∧ s13 = .int .i64 (k : Int) ∧ ((pairsTo l k).map Prod.fst).Nodup ∧ wr.ownsRow w.heap.size 125 2 s4 (addE [] (pairsTo l k)).length ((addE [] (pairsTo l k)).flatMap entCells) ∧ Below w.heap.size w wr)
  case atStart => exact ⟨0, Nat.zero_le _, rfl, rfl, by simp [pairsTo], World.ownsRow_nil _ _ _ _, Below.refl _ _⟩
  case round =>
    obtain ⟨k, hk, rfl, rfl, hnd, hown, hbel⟩ := hrel
    have Hnd := Lib.hid hnd
    have Hown := Lib.hid hown
    have Hbel := Lib.hid hbel
    have hz := hbel.size
    have j1 : (0 : Int) ≤ (k : Int) := Int.natCast_nonneg _
    by_cases hlt : k < l.length
    · obtain ⟨b, off, o, v1, v2, rfl, hb, e, h1, h2, r0, r1⟩ := H.out.object_at hlt
      obtain ⟨A1, n1, rfl, _, _, _⟩ := h1.cases_
      obtain ⟨A2, n2, rfl, _, _, h2⟩ := h2.cases_
      have p0 := (hbel.cell (p := ⟨b, off + k * 2, none⟩) hb).trans r0
      have p1 := (hbel.cell (p := ⟨b, off + k * 2 + 1, none⟩) hb).trans r1
      have j2 : (k : Int) < (l.length : Int) := by omega
      have E := Lib.hid e
      have H2 := Lib.hid h2
      obtain ⟨W4, hW4⟩ : ∃ W4, W4 = wr.alloc (Obj.cells #[.slice A1 o.globals.length n1, .slice A2 o.sections.length n2] 47) := ⟨_, rfl⟩
      have hb4 : Below wr.heap.size wr W4 := by subst hW4; exact (by repeat (first | exact Below.refl _ _ | assumption | refine below_drewN ?_ _ | refine Below.drew ?_ | refine Below.setCell ?_ (by first | omega | (simp; done) | (simp; omega)) _ | refine Below.alloc ?_ (by first | omega | (simp; done) | (simp; omega)) _ | refine below_step (by assumption) ?_ (by first | omega | (simp; done) | (simp; omega))))
      have hV4 : W4.heap[wr.heap.size]? = some (.cells #[.slice A1 o.globals.length n1, .slice A2 o.sections.length n2] 47 (0, 0)) := by subst hW4; exact heap_alloc_new _ _
      have HW4 := Lib.hid hW4.symm
      have Hb4 := Lib.hid (hbel.trans (hb4.mono hz))
      have Hown4 := Lib.hid (own_below hown hb4)
      obtain ⟨u0, u1⟩ := cells_blk hV4
      have hlV4 := blk_lt hV4
      clear hnd hown hbel r0 r1 e h2 hW4 hb4 hV4
      go_upto_region 5 with fail
      rw [HW4.out]
      clear p0 p1
      go_wp2_with fail
      go_loopg [4, 8, 9, 10, 21] o.sections.length (fun gi s4 s8 s9 s10 s21 wi => ∃ (j : Nat) (ps : List (ByteArray × Nat)), j ≤ o.sections.length ∧ gi = o.sections.length - j ∧ s21 = .int .i64 (j : Int) ∧ ps = pairsTo l k ++ (pairsAt o k).take j ∧ (ps.map Prod.fst).Nodup ∧ wi.ownsRow w.heap.size 125 2 s4 (addE [] ps).length ((addE [] ps).flatMap entCells) ∧ Below w.heap.size w wi)
      case atStart => exact ⟨0, pairsTo l k, Nat.zero_le _, rfl, rfl, by simp, Hnd.out, Hown4.out, Hb4.out⟩
      case round =>
        rename World => wi
        obtain ⟨j, ps, hj, rfl, rfl, hps, hnd, hown, hbel⟩ := hrel
        have Hps := Lib.hid hps
        have Hnd2 := Lib.hid hnd
        have Hown2 := Lib.hid hown
        have Hbi := Lib.hid hbel
        have hzi := hbel.size
        have j3 : (0 : Int) ≤ (j : Int) := Int.natCast_nonneg _
        by_cases hjl : j < o.sections.length
        · obtain ⟨b5, o5, s, v5, v6, rfl, hb5, e5, h5, h6, q0, q1, q2⟩ := H2.out.section_at hjl
          obtain ⟨A5, n5, rfl, _, _, _⟩ := h5.cases_
          obtain ⟨A6, n6, rfl, _, _, _⟩ := h6.cases_
          have p0 := (hbel.cell (p := ⟨b5, o5 + j * 3, none⟩) hb5).trans q0
          have p1 := (hbel.cell (p := ⟨b5, o5 + j * 3 + 1, none⟩) hb5).trans q1
          have p2 := (hbel.cell (p := ⟨b5, o5 + j * 3 + 2, none⟩) hb5).trans q2
          have j4 : (j : Int) < (o.sections.length : Int) := by omega
          have E5 := Lib.hid e5
          obtain ⟨W7, hW7⟩ : ∃ W7, W7 = wi.alloc (Obj.cells #[.string s.name, .slice A5 s.code.length n5, .slice A6 s.mends.length n6] 64) := ⟨_, rfl⟩
          have hb7 : Below wi.heap.size wi W7 := by subst hW7; exact (by repeat (first | exact Below.refl _ _ | assumption | refine below_drewN ?_ _ | refine Below.drew ?_ | refine Below.setCell ?_ (by first | omega | (simp; done) | (simp; omega)) _ | refine Below.alloc ?_ (by first | omega | (simp; done) | (simp; omega)) _ | refine below_step (by assumption) ?_ (by first | omega | (simp; done) | (simp; omega))))
          have hV7 : W7.heap[wi.heap.size]? = some (.cells #[.string s.name, .slice A5 s.code.length n5, .slice A6 s.mends.length n6] 64 (0, 0)) := by subst hW7; exact heap_alloc_new _ _
          have HW7 := Lib.hid hW7.symm
          have HV7 := Lib.hid hV7
          have hbw7 := hbel.trans (hb7.mono hzi)
          have Hbw7 := Lib.hid hbw7
          have hown7 := own_below hown hb7
          have Hown7 := Lib.hid hown7
          obtain ⟨y0, y1, y2, _, _, _⟩ := three_cellsL hV7
          have hlV7 := blk_lt hV7
          have hfew7 : Hid (ps.length < (pairsTo l l.length).length) := Lib.hid (by rw [hps]; exact pairs_few E.out e5)
          have hsort : Hid (Sorted ((addE [] ps).map Prod.fst)) := Lib.hid (addE_sorted ps [] List.Pairwise.nil hnd (fun x _ h => by cases h))
          have hel : Hid ((addE [] ps).length = ps.length) := Lib.hid (by rw [addE_len]; simp)
          clear hps hnd hown hbel q0 q1 q2 e5 hW7 hb7 hV7 hbw7 hown7
          go_upto_region 8 with fail
          rw [HW7.out]
          clear p0 p1 p2
          go_wp2_with fail
          refine Search_calls (addE [] ps) s.name _ w.heap.size _ Hown7.out hsort.out (by have := hfew7.out; have := Hfew.out; have := hel.out; omega) _ (fun w8 hb8 => ?_)
          have hV8 := (hb8.block _ hlV7).trans HV7.out
          have hbw8 := Hbw7.out.trans (hb8.mono Hbw7.out.size)
          have Hbw8 := Lib.hid hbw8
          obtain ⟨z0, _, _, _, _, _⟩ := three_cellsL hV8
          have hlV8 := blk_lt hV8
          have hown8 := own_below Hown7.out hb8
          have Hown8 := Lib.hid hown8
          have HinB : Hid (inB ((addE [] ps).map Prod.fst) s.name = true ↔ s.name ∈ ps.map Prod.fst) := Lib.hid (by rw [inB_iff, addE_nil_mem])
          obtain ⟨q, hq⟩ : ∃ q, q = inB ((addE [] ps).map Prod.fst) s.name := ⟨_, rfl⟩
          have Hq := Lib.hid hq
          rw [← hq]
          clear hb8 hV8 hbw8 hq y0 y1 y2 hown8
          cases q
          · have hnew : s.name ∉ ps.map Prod.fst := fun hm => by
              have := HinB.out.2 hm
              rw [← Hq.out] at this
              cases this
            have Hnew := Lib.hid hnew
            obtain ⟨W9, hW9⟩ : ∃ W9, W9 = w8.alloc (Obj.cells #[.string s.name, .int .i64 (k : Int)] 125) := ⟨_, rfl⟩
            have hb9 : Below w8.heap.size w8 W9 := by subst hW9; exact (by repeat (first | exact Below.refl _ _ | assumption | refine below_drewN ?_ _ | refine Below.drew ?_ | refine Below.setCell ?_ (by first | omega | (simp; done) | (simp; omega)) _ | refine Below.alloc ?_ (by first | omega | (simp; done) | (simp; omega)) _ | refine below_step (by assumption) ?_ (by first | omega | (simp; done) | (simp; omega))))
            have hV9 : W9.heap[w8.heap.size]? = some (.cells #[.string s.name, .int .i64 (k : Int)] 125 (0, 0)) := by subst hW9; exact heap_alloc_new _ _
            have HW9 := Lib.hid hW9.symm
            have HV9 := Lib.hid hV9
            have hbw9 := Hbw8.out.trans (hb9.mono Hbw8.out.size)
            have Hbw9 := Lib.hid hbw9
            have Hown9 := Lib.hid (own_below Hown8.out hb9)
            have hne9 : u4.ownBlock ≠ some w8.heap.size := fun e' => by
              have := (Hown8.out.lt _ e').2
              omega
            have Hne9 := Lib.hid hne9
            have HX : Hid (∀ k, k < w.heap.size → ¬ u4.ownBlock = some k) := Lib.hid fun k hk e' => by
              have := (Hown8.out.lt _ e').1
              omega
            clear hnew hW9 hb9 hV9 hbw9 hne9
            go_wp2_with fail
            rw [show w8.alloc (Obj.cells #[.string s.name, .int .i64 (k : Int)] 125) = W9 from HW9.out]
            refine Insert_calls (addE [] ps) (s.name, k) _ (posN ((addE [] ps).map Prod.fst) s.name) w.heap.size w8.heap.size _ Hown9.out (by have := posN_le ((addE [] ps).map Prod.fst) s.name; rw [List.length_map] at this; exact this) (by have := hfew7.out; have := Hfew.out; have := hel.out; omega) Hbw9.out.size HV9.out Hne9.out _ (fun w10 v10 hg10 hown10 => ?_)
            have hbf := Lib.hid (Hbw9.out.trans (hg10.below HX.out Hbw9.out.size))
            have hown11 : w10.ownsRow w.heap.size 125 2 v10 (addE [] (ps ++ [(s.name, k)])).length ((addE [] (ps ++ [(s.name, k)])).flatMap entCells) := by
              rw [addE_snoc, insE_len]
              exact hown10
            have Hown11 := Lib.hid hown11
            have Hnd3 := Lib.hid (nodup_snoc (e := (s.name, k)) Hnd2.out Hnew.out)
            have Hps3 : Hid (ps ++ [(s.name, k)] = pairsTo l k ++ (pairsAt o k).take (j + 1)) := Lib.hid (by rw [Hps.out, pairsAt_step E5.out, List.append_assoc])
            clear hg10 hown10 hown11
            go_wp2
            go_roundg (o.sections.length - (j + 1))
            case measure => omega
            case rel => exact ⟨j + 1, ps ++ [(s.name, k)], hjl, rfl, by go_num, Hps3.out, Hnd3.out, Hown11.out, hbf.out⟩
          · have hdp : ¬ ((pairsTo l l.length).map Prod.fst).Nodup := pairs_dup E.out E5.out (by rw [← Hps.out]; exact HinB.out.1 Hq.out.symm)
            have Hfin := Lib.hid (Hdup.out hdp k w8 Hbw8.out)
            clear hdp
            go_wp2
            exact Hfin.out
        · obtain rfl : j = o.sections.length := by omega
          have hps' : ps = pairsTo l (k + 1) := by
            rw [hps, pairs_step E.out, List.take_of_length_le (by unfold pairsAt; rw [List.length_map]; exact Nat.le_refl _)]
          have Hps' := Lib.hid hps'
          have j4 : ¬ (o.sections.length : Int) < (o.sections.length : Int) := by omega
          clear hps hnd hown hbel hps'
          go_wp2
          go_roundg (l.length - (k + 1))
          case measure => omega
          case rel => exact ⟨k + 1, hlt, rfl, by go_num, by rw [← Hps'.out]; exact Hnd2.out, by rw [← Hps'.out]; exact Hown2.out, Hbi.out⟩
    · obtain rfl : k = l.length := by omega
      have j2 : ¬ (l.length : Int) < (l.length : Int) := by omega
      have hfin := Lib.hid (Hgood.out hnd wr _ hbel hown)
      clear hnd hown hbel
      go_wp2
      exact hfin.out
end Go.Proofs.YtfhnmbnniklmiaaDoor
