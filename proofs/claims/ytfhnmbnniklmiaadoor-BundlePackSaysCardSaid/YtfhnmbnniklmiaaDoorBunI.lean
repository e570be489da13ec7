/- slices.Insert of one entry into the index: a row of the call's own. -/
import Derived.Test.YtfhnmbnniklmiaaDoorBase
import Derived.Test.YtfhnmbnniklmiaaDoorRows
import Derived.IntWalk
import Derived.Deep.RegionHeld3
import Derived.Lib.AppendZerosOnto
import Derived.Lib.AppendZeros
import Derived.Lib.Overlaps
import Derived.Laws.NewBlocks
import Derived.Laws.CopyOwn
import Derived.Laws.Externs
import Derived.Test.YtfhnmbnniklmiaaDoorBunP
import Derived.Test.YtfhnmbnniklmiaaDoorAppA
namespace Go.Proofs.YtfhnmbnniklmiaaDoor
open Go.RowKit
set_option linter.unusedSimpArgs false
set_option linter.unusedVariables false

section
variable {P : Program}
/-- copy, where elements have any size. -/
theorem run_copy_rows (w : World) (dT sT ty elem : TypeId) (size g o dLen dCap : Nat) (a : Addr) (sLen sCap : Nat) (cur : Array Value) (t : TypeId) (cs : List Value)
    (hu : P.underlying dT = some (.slice elem)) (hs : (P.info? elem).map (·.size) = some size) (hg : w.heap[g]? = some (.cells cur t (0, 0))) (hn : cs.length = Nat.min sLen dLen * size)
    (hsrc : ∀ j v, cs[j]? = some v → w.cell? (a.add j) = some v) (hfit : o + cs.length ≤ cur.size) (h1 : ∀ v ∈ cs, v.oneCell' = true) :
    (Builtin.copy_ #[dT, sT] ty #[.slice (some ⟨g, o, none⟩) dLen dCap, .slice (some a) sLen sCap]).run P w =
      .ok (goInt (Nat.min sLen dLen)) (w.setRow g (cur.toList.take o ++ cs ++ cur.toList.drop (o + cs.length)).toArray) := by
  have hl := run_loadCells_list (P := P) w a cs hsrc
  have hst := run_storeCells_at P g o t cs 0 cur w hg (by simpa using hfit) h1
  cases hq : P.info? elem with
  | none => simp [hq] at hs
  | some i =>
    have hi : i.size = size := by simpa [hq] using hs
    rw [hn] at hl
    simp only [Nat.add_zero] at hst
    simp [Builtin.copy_, run_underlying hu, Builtin.lenOf, Builtin.firstCells, sizeOf, typeInfo, hq, hi, hl, hst]
theorem wp_copy_runB (w : World) {o : Oper} {a : Act} {K : Act → World → Prop} {Q : Exit → Act → World → Prop} (d s : Operand) (t t' : TypeId)
    (ho : o.op = .call { callee := .builtin .copy, args := #[d, s], argTypes := #[t, t'] }) (v u : Value) (hd : a.eval d = v) (hs : a.eval s = u) {v' : Value} {w' : World}
    (hr : (Builtin.copy_ #[t, t'] o.type #[v, u]).run P w = .ok v' w') (h : K (a.put o.dst v') w') : o.wp P a w K Q := by
  unfold Oper.wp execOp
  simp only [ho, resolve, invoke, builtin, Sem.run_bind, Sem.run_pure, Result.andThen_ok, List.map_toArray, List.map_cons, List.map_nil, hd, hs, hr]
  exact h
theorem wpList_copy_runB (w : World) {ops : Array Oper} {rest : List Oper} {o : Oper} {a : Act} {Q : Exit → Act → World → Prop} (hgd : o.guard = none) (d s : Operand) (t t' : TypeId)
    (ho : o.op = .call { callee := .builtin .copy, args := #[d, s], argTypes := #[t, t'] }) (v u : Value) (hd : a.eval d = v) (hs : a.eval s = u) {v' : Value} {w' : World}
    (hr : (Builtin.copy_ #[t, t'] o.type #[v, u]).run P w = .ok v' w') (h : wpList P ops Q rest (a.put o.dst v') w') : wpList P ops Q (o :: rest) a w :=
  wpList_plain hgd fun _ hK => wp_copy_runB w d s t t' ho v u hd hs hr (hK _ _ h)
theorem step_copy_runB {ops : Array Oper} {o : Oper} {a : Act} {w : World} {K : Act → World → Prop} {Q : Exit → Act → World → Prop} {E : Prop}
    (hg : o.guard = none) (d x : Operand) (dT sT : TypeId) (hop : o.op = Op.call { callee := Callee.builtin Builtin.copy, args := #[d, x], argTypes := #[dT, sT] })
    (v u : Value) (hd : a.eval d = v) (hx : a.eval x = u) {v' : Value} {w' : World} (hr : (Builtin.copy_ #[dT, sT] o.type #[v, u]).run P w = .ok v' w') (hK : K (a.put o.dst v') w') :
    if Region.wanted o (yielded ops a.tmps) = true then Oper.wp P o a w K Q else E := by
  have hw : Region.wanted o (yielded ops a.tmps) = true := by simp [Region.wanted, hg]
  rw [if_pos hw]
  exact wp_copy_runB w d x dT sT hop v u hd hx hr hK
end

def entCells (e : ByteArray × Nat) : List Value := [.string e.1, .int .i64 (e.2 : Int)]
theorem info_entry : (Tryd.prog.info? 125).map (fun i => (i.zero, i.size, i.bytes)) = some (some (.agg #[.string ByteArray.empty, .int .i64 0]), 2, 24) := by kernel_rfl
theorem ent_take {E : List (ByteArray × Nat)} : ∀ (k : Nat), (E.take k).flatMap entCells = (E.flatMap entCells).take (k * 2) := by
  induction E with
  | nil => intro k; simp
  | cons e E ih =>
    intro k
    cases k with
    | zero => simp
    | succ k =>
      rw [List.take_succ_cons, List.flatMap_cons, List.flatMap_cons, ih k, show (k + 1) * 2 = (entCells e).length + k * 2 from by simp [entCells]; omega, List.take_length_add_append]
theorem ent_drop {E : List (ByteArray × Nat)} : ∀ (k : Nat), (E.drop k).flatMap entCells = (E.flatMap entCells).drop (k * 2) := by
  induction E with
  | nil => intro k; simp
  | cons e E ih =>
    intro k
    cases k with
    | zero => simp
    | succ k =>
      rw [List.drop_succ_cons, List.flatMap_cons, ih k, show (k + 1) * 2 = (entCells e).length + k * 2 from by simp [entCells]; omega, List.drop_length_add_append]
theorem entCells_one {E : List (ByteArray × Nat)} {v : Value} (h : v ∈ E.flatMap entCells) : v.oneCell' = true := by
  obtain ⟨e, _, h⟩ := List.mem_flatMap.1 h
  simp only [entCells, List.mem_cons, List.not_mem_nil, or_false] at h
  rcases h with rfl | rfl <;> rfl

/-- What lies in a new row. -/
theorem put_new {R xs : List Value} {x0 x1 : Value} {n i : Nat} (hx : xs.length = n * 2) (hi : i < n) (hr : R.take (i * 2) = xs.take (i * 2)) (hR : (n + 1) * 2 ≤ R.length) (r1 r2 : List Value)
    (h1 : r1 = R.take (i * 2) ++ [x0, x1] ++ R.drop (i * 2 + 2)) (h2 : r2 = r1.take ((i + 1) * 2) ++ xs.drop (i * 2) ++ r1.drop ((i + 1) * 2 + (xs.drop (i * 2)).length)) :
    r1.length = R.length ∧ r2.length = R.length ∧ r2.take ((n + 1) * 2) = xs.take (i * 2) ++ [x0, x1] ++ xs.drop (i * 2) := by
  have l0 : (xs.take (i * 2)).length = i * 2 := by rw [List.length_take]; omega
  have l1 : r1.length = R.length := by
    rw [h1, hr]
    simp only [List.length_append, List.length_drop, List.length_cons, List.length_nil, l0]
    omega
  have ld : (xs.drop (i * 2)).length = (n - i) * 2 := by rw [List.length_drop]; omega
  have e1 : r1.take ((i + 1) * 2) = xs.take (i * 2) ++ [x0, x1] := by
    rw [h1, hr, List.take_append_of_le_length (by simp only [List.length_append, l0, List.length_cons, List.length_nil]; omega), List.take_of_length_le (by simp only [List.length_append, l0, List.length_cons, List.length_nil]; omega)]
  refine ⟨l1, ?_, ?_⟩
  · rw [h2, e1]
    simp only [List.length_append, List.length_drop, List.length_cons, List.length_nil, l0, l1]
    omega
  · rw [h2, e1, List.take_append_of_le_length (by simp only [List.length_append, l0, ld, List.length_cons, List.length_nil]; omega), List.take_of_length_le (by simp only [List.length_append, l0, ld, List.length_cons, List.length_nil]; omega)]
/-- What lies in a row that is moved up in place. -/
theorem put_shift {R xs : List Value} {x0 x1 : Value} {n i : Nat} (hx : xs.length = n * 2) (hi : i < n) (hr : R.take (n * 2) = xs) (hR : (n + 1) * 2 ≤ R.length) (r1 r2 : List Value)
    (h1 : r1 = R.take ((i + 1) * 2) ++ xs.drop (i * 2) ++ R.drop ((i + 1) * 2 + (xs.drop (i * 2)).length)) (h2 : r2 = r1.take (i * 2) ++ [x0, x1] ++ r1.drop (i * 2 + 2)) :
    r1.length = R.length ∧ r2.length = R.length ∧ r2.take ((n + 1) * 2) = xs.take (i * 2) ++ [x0, x1] ++ xs.drop (i * 2) := by
  have ld : (xs.drop (i * 2)).length = (n - i) * 2 := by rw [List.length_drop]; omega
  have l0 : (R.take ((i + 1) * 2)).length = (i + 1) * 2 := by rw [List.length_take]; omega
  have l1 : r1.length = R.length := by
    rw [h1]
    simp only [List.length_append, List.length_drop, l0, hx]
    omega
  have e1 : r1.take (i * 2) = xs.take (i * 2) := by
    rw [h1, List.append_assoc, List.take_append_of_le_length (by rw [l0]; omega), List.take_take, ← hr, List.take_take]
    congr 1
    omega
  have e2 : r1.drop (i * 2 + 2) = xs.drop (i * 2) ++ R.drop ((i + 1) * 2 + (xs.drop (i * 2)).length) := by
    rw [h1, List.append_assoc, List.drop_append_of_le_length (by rw [l0]; omega), List.drop_of_length_le (by rw [l0]; omega), List.nil_append]
  refine ⟨l1, ?_, ?_⟩
  · rw [h2]
    simp only [List.length_append, List.length_drop, List.length_take, List.length_cons, List.length_nil, l1]
    omega
  · have l2 : (xs.take (i * 2)).length = i * 2 := by rw [List.length_take]; omega
    rw [h2, e1, e2, ← List.append_assoc, List.take_append_of_le_length (by simp only [List.length_append, l2, ld, List.length_cons, List.length_nil]; omega), List.take_of_length_le (by simp only [List.length_append, l2, ld, List.length_cons, List.length_nil]; omega)]

set_option maxRecDepth 100000 in
set_option maxHeartbeats 4000000 in
theorem Insert_calls (E : List (ByteArray × Nat)) (e : ByteArray × Nat) (v : Value) (i base vb : Nat) (w : World) (h : w.ownsRow base 125 2 v E.length (E.flatMap entCells)) (hi : i ≤ E.length) (hlen : E.length ≤ 100000) (hbase : base ≤ w.heap.size)
    (hvb : w.heap[vb]? = some (.cells #[.string e.1, .int .i64 (e.2 : Int)] 125 (0, 0))) (hne : v.ownBlock ≠ some vb) (R : Ending → World → Prop)
    (hR : ∀ w' v', Grew (fun k => v.ownBlock = some k) w w' → w'.ownsRow base 125 2 v' (E.length + 1) ((E.take i ++ e :: E.drop i).flatMap entCells) → R (.returned v') w') :
    Calls Tryd.prog 114 #[v, .int .i64 (i : Int), .slice (some ⟨vb, 0, none⟩) 1 1] w R := by
  obtain ⟨iE, hiE, zE0, zE1, zE2⟩ := info_parts info_entry
  have hsize : (Tryd.prog.info? 125).map (·.size) = some 2 := by rw [hiE]; simp [zE1]
  obtain ⟨n, hn⟩ : ∃ n, n = E.length := ⟨_, rfl⟩
  obtain ⟨xs, hxs⟩ : ∃ xs, xs = E.flatMap entCells := ⟨_, rfl⟩
  have hxl : xs.length = n * 2 := by rw [hxs, hn]; exact flat_length entCells 2 (fun _ => rfl) E
  have hnew : (E.take i ++ e :: E.drop i).flatMap entCells = xs.take (i * 2) ++ [Value.string e.1, .int .i64 (e.2 : Int)] ++ xs.drop (i * 2) := by
    rw [List.flatMap_append, List.flatMap_cons, ent_take, ent_drop, hxs]
    simp [entCells]
  have hx1 : ∀ v ∈ xs, v.oneCell' = true := fun v hv => entCells_one (by rw [← hxs]; exact hv)
  rw [hnew] at hR
  rw [← hn, ← hxs] at h
  rw [← hn] at hR hi hlen
  obtain ⟨A, cap, rfl⟩ := own_slice h
  have HR := Lib.hid hR
  have H := Lib.hid h
  have HV := Lib.hid hvb
  have HX := Lib.hid hx1
  have HXl := Lib.hid hxl
  have hvl := blk_lt hvb
  clear hR hxs hnew hn
  have hcase : (A = none ∧ n = 0 ∧ cap = 0) ∨ ∃ g cur, A = some ⟨g, 0, none⟩ ∧ base ≤ g ∧ w.heap[g]? = some (.cells cur 125 (0, 0)) ∧ n ≤ cap ∧ cap ≤ maxLen ∧ cur.size = cap * 2 ∧ cur.toList.take (n * 2) = xs := by
    obtain ⟨_, h⟩ := h
    rcases h with ⟨e, h0⟩ | ⟨g, cp, cur, e, h1, h2, h3, h4, h5, h6⟩
    · injection e with e1 e2 e3
      exact .inl ⟨e1, h0, e3⟩
    · injection e with e1 e2 e3
      subst e3
      exact .inr ⟨g, cur, e1, h1, h2, h3, h4, h5, h6⟩
  have i0 : (0 : Int) ≤ (i : Int) := Int.natCast_nonneg _
  by_cases hin : i = n
  · -- at the end
    subst hin
    have hto : xs.take (i * 2) ++ [Value.string e.1, .int .i64 (e.2 : Int)] ++ xs.drop (i * 2) = xs ++ [Value.string e.1, .int .i64 (e.2 : Int)] := by
      rw [← hxl, List.take_length, List.drop_length, List.append_nil]
    have Hto := Lib.hid hto
    have i1 : (i : Int) ≤ (cap : Int) := by rcases hcase with ⟨_, h1, h2⟩ | ⟨g, cur, _, _, _, h1, _⟩ <;> omega
    have i2 : i ≤ cap := by omega
    rcases hcase with ⟨rfl, h1, rfl⟩ | ⟨g, cur, rfl, hbg, hg, hnc, hcm, hcs, htk⟩
    · subst h1
      clear hto h hxl
      go_enter Tryd.func114, Tryd.ntmps114
      go_wp2_with (at_builtin; refine wpList_append_lies _ rfl _ _ 119 rfl base 125 iE _ 2 24 Tryd.underlying119 hiE zE0 zE1 zE2 rfl (by decide) (.slice none 0 0) 0 xs rfl H.out ⟨vb, 0, none⟩ 1 1 [.string e.1, .int .i64 (e.2 : Int)] rfl rfl ?_ ?_ (by decide) ?_ ?_ hbase _ rfl ?_)
      · exact World.news_of_block HV.out
      · simp [Value.oneCell']
      · unfold maxLen; omega
      · omega
      · intro gb cp w3 hown3 hgrow3 hat3 hlt3
        have hr := HR.out w3 (.slice (some ⟨gb, 0, none⟩) (0 + 1) cp) (Grew.of_grown hgrow3 |>.more fun j _ e => e.symm ▸ rfl) (by rw [Hto.out]; exact hown3)
        have Hr := Lib.hid hr
        clear hr hown3 hgrow3 hat3
        go_wp2
        exact Hr.out
    · have hgl := blk_lt hg
      have cc : (cap : Int) ≤ 9223372036854775807 := by unfold maxLen at hcm; omega
      clear hto h hxl hg htk
      by_cases hci : cap = i
      · have hci' : (cap : Int) = (i : Int) := by omega
        go_enter Tryd.func114, Tryd.ntmps114
        go_wp2_with (at_builtin; refine wpList_append_lies _ rfl _ _ 119 rfl base 125 iE _ 2 24 Tryd.underlying119 hiE zE0 zE1 zE2 rfl (by decide) (.slice (some ⟨g, 0, none⟩) i cap) i xs rfl H.out ⟨vb, 0, none⟩ 1 1 [.string e.1, .int .i64 (e.2 : Int)] rfl rfl ?_ ?_ (by decide) ?_ ?_ hbase _ rfl ?_)
        · exact World.news_of_block HV.out
        · simp [Value.oneCell']
        · unfold maxLen; omega
        · omega
        · intro gb cp w3 hown3 hgrow3 hat3 hlt3
          have hr := HR.out w3 (.slice (some ⟨gb, 0, none⟩) (i + 1) cp) (Grew.of_grown hgrow3 |>.more fun j _ e => e.symm ▸ rfl) (by rw [Hto.out]; exact hown3)
          have Hr := Lib.hid hr
          clear hr hown3 hgrow3 hat3
          go_wp2
          exact Hr.out
      · have hci' : ¬ (cap : Int) = (i : Int) := by omega
        go_enter Tryd.func114, Tryd.ntmps114
        go_wp2_with (at_builtin; refine wpList_append_lies _ rfl _ _ 119 rfl base 125 iE _ 2 24 Tryd.underlying119 hiE zE0 zE1 zE2 rfl (by decide) (.slice (some ⟨g, 0, none⟩) i cap) i xs rfl H.out ⟨vb, 0, none⟩ 1 1 [.string e.1, .int .i64 (e.2 : Int)] rfl rfl ?_ ?_ (by decide) ?_ ?_ hbase _ rfl ?_)
        · exact World.news_of_block HV.out
        · simp [Value.oneCell']
        · unfold maxLen; omega
        · omega
        · intro gb cp w3 hown3 hgrow3 hat3 hlt3
          have hr := HR.out w3 (.slice (some ⟨gb, 0, none⟩) (i + 1) cp) (Grew.of_grown hgrow3 |>.more fun j _ e => e.symm ▸ rfl) (by rw [Hto.out]; exact hown3)
          have Hr := Lib.hid hr
          clear hr hown3 hgrow3 hat3
          go_wp2
          exact Hr.out
  · have hin' : i < n := by omega
    obtain ⟨g, cur, rfl, hbg, hg, hnc, hcm, hcs, htk⟩ := hcase.resolve_left (by rintro ⟨_, h0, _⟩; omega)
    have hgl := blk_lt hg
    have cc : (cap : Int) ≤ 9223372036854775807 := by unfold maxLen at hcm; omega
    have hxget : ∀ j u, xs[j]? = some u → w.cell? ⟨g, j, none⟩ = some u := fun j u hj => by
      rw [← htk, List.getElem?_take] at hj
      split at hj
      · simp only [World.cell?, hg]
        simpa using hj
      · cases hj
    have hvget := World.news_of_block hvb
    have hz2 : ¬ ((i : Int) = (n : Int)) := by omega
    have w1 : IntKind.i64.wrap ((n : Int) + 1) = (n : Int) + 1 := IntWalk.i64_in _ (by omega)
    have w2 : IntKind.i64.wrap ((i : Int) + 1) = (i : Int) + 1 := IntWalk.i64_in _ (by omega)
    have w3 : IntKind.i64.wrap ((n : Int) + 1 - (i : Int)) = (n : Int) + 1 - (i : Int) := IntWalk.i64_in _ (by omega)
    have htn : ((i : Int) + 1).toNat = i + 1 := by omega
    have htn2 : ((n : Int) + 1).toNat = n + 1 := by omega
    have b1 : (0 : Int) ≤ (i : Int) + 1 := by omega
    have b2 : (i : Int) ≤ (n : Int) := by omega
    have b3 : (i : Int) ≤ (cap : Int) := by omega
    have b4 : (i : Int) ≤ (n : Int) + 1 := by omega
    have b5 : (0 : Int) ≤ (n : Int) + 1 := by omega
    have hlx : (xs.drop (i * 2)).length = (n - i) * 2 := by rw [List.length_drop]; omega
    by_cases hroom : n + 1 ≤ cap
    · -- in place
      have hz3 : ¬ ((cap : Int) < (n : Int) + 1) := by omega
      have hci : ¬ (cap = i) := by omega
      have b6 : (n : Int) + 1 ≤ (cap : Int) := by omega
      have b7 : ¬ (cap = i + 1) := by omega
      have hvg : vb ≠ g := fun e' => hne (by rw [e']; rfl)
      have hov : ∀ lb cb, (callFunc 137 #[.slice (some ⟨vb, 0, none⟩) 1 1, .slice (some ⟨g, (i + 1) * 2, none⟩) lb cb]).run Tryd.prog w = .ok (.value (.bool false)) w := fun lb cb => by
        rw [run_callFunc_extern Tryd.func137 (by kernel_rfl) (by kernel_rfl) (by kernel_rfl) (e := Extern.SlicesOverlaps.overlaps #[119, 119] #[4]) (by kernel_rfl),
          Lib.run_overlaps_apart w 119 4 125 Tryd.underlying119 2 (fun _ => by kernel_rfl) ⟨vb, 0, none⟩ ⟨g, (i + 1) * 2, none⟩ 1 1 lb cb hvg 125 125 2 cur.size (by simp [World.shape?, hvb]) (by simp [World.shape?, hg]) (by omega) (by simp [World.frozen?, hvb]) (by simp [World.frozen?, hvb])]
        rfl
      obtain ⟨r1, hr1⟩ : ∃ r1, r1 = cur.toList.take ((i + 1) * 2) ++ xs.drop (i * 2) ++ cur.toList.drop ((i + 1) * 2 + (xs.drop (i * 2)).length) := ⟨_, rfl⟩
      obtain ⟨r2, hr2⟩ : ∃ r2, r2 = r1.take (i * 2) ++ [Value.string e.1, .int .i64 (e.2 : Int)] ++ r1.drop (i * 2 + 2) := ⟨_, rfl⟩
      have hcl : cur.toList.length = cap * 2 := by rw [Array.length_toList]; exact hcs
      obtain ⟨l1, l2, hfin⟩ := put_shift hxl hin' htk (by rw [hcl]; omega) r1 r2 hr1 hr2
      have hcp1 : ∀ W : World, W.heap[g]? = w.heap[g]? → ∀ ty dc sc, (Builtin.copy_ #[119, 119] ty #[.slice (some ⟨g, (i + 1) * 2, none⟩) (n - i) dc, .slice (some ⟨g, i * 2, none⟩) (n + 1 - i) sc]).run Tryd.prog W = .ok (goInt (Nat.min (n + 1 - i) (n - i))) (W.setRow g r1.toArray) := fun W hW ty dc sc => by
        have := run_copy_rows (P := Tryd.prog) W 119 119 ty 125 2 g ((i + 1) * 2) (n - i) dc ⟨g, i * 2, none⟩ (n + 1 - i) sc cur 125 (xs.drop (i * 2)) Tryd.underlying119 hsize (hW.trans hg) (by rw [hlx]; simp only [Nat.min_def]; split <;> omega) (fun j u hj => by
          rw [Addr.add_lit]
          rw [List.getElem?_drop] at hj
          exact (World.cell?_of_block (a := ⟨g, i * 2 + j, none⟩) hW).trans (hxget _ _ hj)) (by rw [hlx]; omega) (fun u hu => hx1 u (List.mem_of_mem_drop hu))
        rw [this, hr1]
      have hcp2 : ∀ W : World, W.heap[g]? = some (.cells r1.toArray 125 (0, 0)) → W.heap[vb]? = w.heap[vb]? → ∀ ty dc, (Builtin.copy_ #[119, 119] ty #[.slice (some ⟨g, i * 2, none⟩) (n + 1 - i) dc, .slice (some ⟨vb, 0, none⟩) 1 1]).run Tryd.prog W = .ok (goInt (Nat.min 1 (n + 1 - i))) (W.setRow g r2.toArray) := fun W hW hWv ty dc => by
        have := run_copy_rows (P := Tryd.prog) W 119 119 ty 125 2 g (i * 2) (n + 1 - i) dc ⟨vb, 0, none⟩ 1 1 r1.toArray 125 [Value.string e.1, .int .i64 (e.2 : Int)] Tryd.underlying119 hsize hW (by simp only [Nat.min_def, List.length_cons, List.length_nil]; split <;> omega) (World.news_of_block (hWv.trans hvb)) (by simp only [List.size_toArray, l1, hcl, List.length_cons, List.length_nil]; omega) (fun u hu => by
          simp only [List.mem_cons, List.not_mem_nil, or_false] at hu
          rcases hu with rfl | rfl <;> rfl)
        rw [this, hr2]
        rfl
      have hgr : ∀ W : World, W.os = w.os → W.tape = w.tape → W.output = w.output → W.heap.size = w.heap.size → (∀ k, k ≠ g → W.heap[k]? = w.heap[k]?) → W.heap[g]? = some (.cells r2.toArray 125 (0, 0)) → R (.returned (.slice (some ⟨g, 0, none⟩) (n + 1) cap)) W := fun W h1 h2 h3 h4 h5 h6 => by
        refine HR.out W _ ⟨h1, h2, h3, by omega, fun k hk hx => h5 k fun e' => hx (by rw [e']; rfl)⟩ ⟨?_, .inr ⟨g, cap, r2.toArray, rfl, hbg, h6, hroom, hcm, by simp only [List.size_toArray, l2, hcl], hfin⟩⟩
        simp only [List.length_append, List.length_cons, List.length_nil, List.length_take, List.length_drop]
        omega
      have HCp1 := Lib.hid hcp1
      have HCp2 := Lib.hid hcp2
      have Hgr := Lib.hid hgr
      have Hg := Lib.hid hg
      clear hcp1 hcp2 hgr hr1 hr2 hfin htk hxget hvget hlx hx1 h hg hxl
      go_enter Tryd.func114, Tryd.ntmps114
      go_wp2_with (simp only [hov])
      go_region_held3 (fun _ : World => True) (exact trivial) (refine step_copy_runB rfl _ _ 119 119 rfl (.slice (some ⟨g, (i + 1) * 2, none⟩) (n - i) (cap - (i + 1))) (.slice (some ⟨g, i * 2, none⟩) (n + 1 - i) (cap - i)) (by simp [Act.eval, Act.put]) (by simp [Act.eval, Act.put]) (HCp1.out w.drew rfl 3 (cap - (i + 1)) (cap - i)) ?_)
      all_goals
        have hE : (w.drew.setRow g r1.toArray).heap[g]? = some (.cells r1.toArray 125 (0, 0)) := setRow_heap w.drew g cur _ _ _ Hg.out
        have HE := Lib.hid hE
        have hk2 := Lib.hid (HCp2.out _ hE (setRow_other w.drew g vb r1.toArray hvg) 3 (cap - i))
        clear hE
        go_wp2_with (simp only [hk2.out])
        refine Hgr.out ((w.drew.setRow g r1.toArray).setRow g r2.toArray) ?_ ?_ ?_ ?_ (fun k hk => ?_) (setRow_heap _ g _ _ _ _ HE.out)
        · rfl
        · rfl
        · rfl
        · rw [size_setRow, size_setRow]
          rfl
        · rw [setRow_other _ g k _ hk, setRow_other _ g k _ hk]
          rfl
    · -- a new row
      have hz3 : (cap : Int) < (n : Int) + 1 := by omega
      have hci : ¬ (cap = i) := by omega
      have hkk : (n : Int) + 1 - (i : Int) = ((n + 1 - i : Nat) : Int) := by omega
      have hik : i + (n + 1 - i) = n + 1 := by omega
      have hold : (Builtin.firstCells iE.size i (.slice (some ⟨g, 0, none⟩) i cap)).run Tryd.prog w.drew = .ok (xs.take (i * 2)).toArray w.drew := by
        rw [zE1]
        exact run_firstCells_some (P := Tryd.prog) (w := w.drew) 2 i ⟨g, 0, none⟩ i cap (xs.take (i * 2)) (by rw [List.length_take]; omega) (fun j u hj => by
          rw [List.getElem?_take] at hj
          split at hj
          · rw [Addr.add_lit, Nat.zero_add]
            exact hxget j u hj
          · cases hj)
      obtain ⟨G, hG⟩ : ∃ G, G = grownCap w (n + 1) cap 125 := ⟨_, rfl⟩
      obtain ⟨ROW, hROW⟩ : ∃ ROW : Array Value, ROW = (xs.take (i * 2)).toArray ++ Builtin.zeroCells (Value.agg #[.string ByteArray.empty, .int .i64 0]).cells (n + 1 - i) ++ Builtin.zeroCells (Value.agg #[.string ByteArray.empty, .int .i64 0]).cells (G - (n + 1)) := ⟨_, rfl⟩
      have hrz : ∀ ty, (Builtin.append_ #[119, 3] ty #[.slice (some ⟨g, 0, none⟩) i cap, .int .i64 ((n + 1 - i : Nat) : Int)]).run Tryd.prog w =
          .ok (.slice (some ⟨w.heap.size, 0, none⟩) (n + 1) G) (w.drew.alloc (.cells ROW 125)) := fun ty => by
        have h := Lib.run_append_grow_zeros (P := Tryd.prog) w 119 3 ty 125 iE _ .i64 .i64 Tryd.underlying119 Tryd.underlying3 hiE zE0 (some ⟨g, 0, none⟩) i cap (xs.take (i * 2)) hold (n + 1 - i) (by omega) (by omega) (by omega) (by omega) (by rw [zE2]; omega) (by rw [zE2, hik]; exact growslice_fits (by omega) (by omega))
        rw [hik] at h
        rw [hROW, hG]
        exact h
      have hGn : n + 1 ≤ G := by rw [hG]; exact grownCap_ge w _ _ _
      have hGm : G ≤ maxLen := by rw [hG]; exact grownCap_le_maxLen w (n + 1) cap _ (by unfold maxLen; omega)
      have hRs : ROW.size = G * 2 := by
        rw [hROW]
        simp [Builtin.zeroCells, Value.cells]
        omega
      have hRt : ROW.toList.take (i * 2) = xs.take (i * 2) := by
        rw [hROW]
        simp only [Array.toList_append, List.append_assoc]
        rw [List.take_append_of_le_length (by rw [List.length_take]; omega), List.take_take, Nat.min_self]
      obtain ⟨r1, hr1⟩ : ∃ r1, r1 = ROW.toList.take (i * 2) ++ [Value.string e.1, .int .i64 (e.2 : Int)] ++ ROW.toList.drop (i * 2 + 2) := ⟨_, rfl⟩
      obtain ⟨r2, hr2⟩ : ∃ r2, r2 = r1.take ((i + 1) * 2) ++ xs.drop (i * 2) ++ r1.drop ((i + 1) * 2 + (xs.drop (i * 2)).length) := ⟨_, rfl⟩
      have hRl : ROW.toList.length = G * 2 := by rw [Array.length_toList]; exact hRs
      obtain ⟨l1, l2, hfin⟩ := put_new hxl hin' hRt (by rw [hRl]; omega) r1 r2 hr1 hr2
      obtain ⟨N, hN⟩ : ∃ N, N = w.heap.size := ⟨_, rfl⟩
      have hcp1 : ∀ W : World, W.heap[N]? = some (.cells ROW 125 (0, 0)) → W.heap[vb]? = w.heap[vb]? → ∀ ty dc, (Builtin.copy_ #[119, 119] ty #[.slice (some ⟨N, i * 2, none⟩) (n + 1 - i) dc, .slice (some ⟨vb, 0, none⟩) 1 1]).run Tryd.prog W = .ok (goInt (Nat.min 1 (n + 1 - i))) (W.setRow N r1.toArray) := fun W hW hWv ty dc => by
        have := run_copy_rows (P := Tryd.prog) W 119 119 ty 125 2 N (i * 2) (n + 1 - i) dc ⟨vb, 0, none⟩ 1 1 ROW 125 [Value.string e.1, .int .i64 (e.2 : Int)] Tryd.underlying119 hsize hW (by simp only [Nat.min_def, List.length_cons, List.length_nil]; split <;> omega) (World.news_of_block (hWv.trans hvb)) (by simp only [hRs, List.length_cons, List.length_nil]; omega) (fun u hu => by
          simp only [List.mem_cons, List.not_mem_nil, or_false] at hu
          rcases hu with rfl | rfl <;> rfl)
        rw [this, hr1]
        rfl
      have hcp2 : ∀ W : World, W.heap[N]? = some (.cells r1.toArray 125 (0, 0)) → W.heap[g]? = w.heap[g]? → ∀ ty dc sc, (Builtin.copy_ #[119, 119] ty #[.slice (some ⟨N, (i + 1) * 2, none⟩) (n - i) dc, .slice (some ⟨g, i * 2, none⟩) (n - i) sc]).run Tryd.prog W = .ok (goInt (Nat.min (n - i) (n - i))) (W.setRow N r2.toArray) := fun W hW hWg ty dc sc => by
        have := run_copy_rows (P := Tryd.prog) W 119 119 ty 125 2 N ((i + 1) * 2) (n - i) dc ⟨g, i * 2, none⟩ (n - i) sc r1.toArray 125 (xs.drop (i * 2)) Tryd.underlying119 hsize hW (by rw [hlx]; simp only [Nat.min_def]; split <;> omega) (fun j u hj => by
          rw [Addr.add_lit]
          rw [List.getElem?_drop] at hj
          exact (World.cell?_of_block (a := ⟨g, i * 2 + j, none⟩) hWg).trans (hxget _ _ hj)) (by rw [hlx]; simp only [List.size_toArray, l1, hRl]; omega) (fun u hu => hx1 u (List.mem_of_mem_drop hu))
        rw [this, hr2]
      have hgr : ∀ W : World, Below w.heap.size w W → W.heap[N]? = some (.cells r2.toArray 125 (0, 0)) → R (.returned (.slice (some ⟨N, 0, none⟩) (n + 1) G)) W := fun W hb h6 => by
        refine HR.out W _ (Grew.of_below hb fun k h1 h2 => by omega) ⟨?_, .inr ⟨N, G, r2.toArray, rfl, by omega, h6, hGn, hGm, by simp only [List.size_toArray, l2, hRl], hfin⟩⟩
        simp only [List.length_append, List.length_cons, List.length_nil, List.length_take, List.length_drop]
        omega
      rw [← hN] at hrz
      have hGN : g ≠ N := by omega
      have hVN : vb ≠ N := by omega
      have hgi : ¬ (G = i) := by omega
      have hgi' : ¬ (G = i + 1) := by omega
      have HCp1 := Lib.hid hcp1
      have HCp2 := Lib.hid hcp2
      have Hgr := Lib.hid hgr
      have Hg := Lib.hid hg
      have HN := Lib.hid hN
      have b8 : (i : Int) + 1 ≤ (n : Int) + 1 := by omega
      have b9 : (n : Int) + 1 ≤ (G : Int) := by omega
      have ga : (G : Int) ≤ 9223372036854775807 := by unfold maxLen at hGm; omega
      clear hcp1 hcp2 hgr hr1 hr2 hfin htk hxget hvget hlx hx1 h hg hxl hROW hG hold hRt hRl hRs l1 l2 hN
      go_enter Tryd.func114, Tryd.ntmps114
      have hA1 : ((w.alloc (.cells ROW 125)).drew).heap[N]? = some (.cells ROW 125 (0, 0)) := by
        rw [HN.out]
        exact heap_alloc_new w _
      have hA2 : ((w.alloc (.cells ROW 125)).drew).heap[vb]? = w.heap[vb]? := Below.heap_alloc _ _ _ hvl
      have hA3 : ((w.alloc (.cells ROW 125)).drew).heap[g]? = w.heap[g]? := Below.heap_alloc _ _ _ hgl
      have hB1 := setRow_heap ((w.alloc (.cells ROW 125)).drew) N ROW r1.toArray _ _ hA1
      have hB3 := (setRow_other ((w.alloc (.cells ROW 125)).drew) N g r1.toArray hGN).trans hA3
      have hk1 := Lib.hid (HCp1.out _ hA1 hA2 3 (G - i))
      have HA1 := Lib.hid hA1
      have HA2 := Lib.hid hA2
      have HB1 := Lib.hid hB1
      have HB3 := Lib.hid hB3
      clear hA1 hA2 hA3 hB1 hB3
      go_wp2_with (first
        | (at_builtin; refine Lib.wpList_append_run _ rfl _ _ _ _ rfl _ _ rfl rfl _ _ (hrz _) ?_)
        | (simp only [hk1.out]))
      go_region_held3 (fun _ : World => True) (exact trivial) (refine step_copy_runB rfl _ _ 119 119 rfl (.slice (some ⟨N, (i + 1) * 2, none⟩) (n - i) (G - (i + 1))) (.slice (some ⟨g, i * 2, none⟩) (n - i) (cap - i)) (by simp [Act.eval, Act.put]) (by simp [Act.eval, Act.put]) (HCp2.out (((w.alloc (.cells ROW 125)).drew.setRow N r1.toArray).drew) HB1.out HB3.out 3 (G - (i + 1)) (cap - i)) ?_)
      all_goals
        have hC := setRow_heap (((w.alloc (.cells ROW 125)).drew.setRow N r1.toArray).drew) N _ r2.toArray _ _ HB1.out
        have HC := Lib.hid hC
        clear hC
        go_wp2
        refine Hgr.out (((w.alloc (.cells ROW 125)).drew.setRow N r1.toArray).drew.setRow N r2.toArray) ?_ HC.out
        refine below_setRow (Below.drew (below_setRow (Below.drew ?_) (Nat.le_of_eq HN.out.symm) _)) (Nat.le_of_eq HN.out.symm) _
        exact (Below.refl _ _).alloc (Nat.le_refl _) _
end Go.Proofs.YtfhnmbnniklmiaaDoor
