/- slices.Clone, at three types. Words for variables of two cells: blocks known whole, behind stores; the results Object and Fault. object.Copy: the same object, in memory of its own. -/
import Derived.Test.YtcakodemngchpaaGreatDoorBase
import Derived.Test.YtcakodemngchpaaGreatDoorRows
import Derived.IntWalk
import Derived.Test.YtcakodemngchpaaGreatDoorPlainA
import Derived.Test.YtcakodemngchpaaGreatDoorReadB
import Derived.Deep.LoopGhost
import Derived.Deep.CutBlock
import Derived.Deep.DeepCutAuto
import Derived.Outline
/- slices.Clone, at three types. -/
namespace Go.Proofs.YtcakodemngchpaaGreatDoor
open Go.RowKit
set_option linter.unusedSimpArgs false
set_option linter.unusedVariables false

def intCells (n : Int) : List Value := [.int .i64 n]
def byteCells (n : UInt8) : List Value := [.int .u8 n.toNat]
def Mend.cells (m : Mend) : List Value := [.int .i64 m.at_, .string m.name]
theorem info_int3 : (Tryz.prog.info? 3).map (fun i => (i.zero, i.size, i.bytes)) = some (some (.int .i64 0), 1, 8) := by kernel_rfl
theorem info_byte : (Tryz.prog.info? 5).map (fun i => (i.zero, i.size, i.bytes)) = some (some (.int .u8 0), 1, 1) := by kernel_rfl
theorem info_Mend : (Tryz.prog.info? 84).map (fun i => (i.zero, i.size, i.bytes)) = some (some (.agg #[.int .i64 0, .string ByteArray.empty]), 2, 24) := by kernel_rfl
theorem one_int (xs : List Int) : ∀ u ∈ xs.flatMap intCells, u.oneCell' = true := by
  intro u hu
  obtain ⟨m, _, hm⟩ := List.mem_flatMap.1 hu
  simp [intCells] at hm
  subst hm
  rfl
theorem one_byte (xs : List UInt8) : ∀ u ∈ xs.flatMap byteCells, u.oneCell' = true := by
  intro u hu
  obtain ⟨m, _, hm⟩ := List.mem_flatMap.1 hu
  simp [byteCells] at hm
  subst hm
  rfl
theorem one_Mend (xs : List Mend) : ∀ u ∈ xs.flatMap Mend.cells, u.oneCell' = true := by
  intro u hu
  obtain ⟨m, _, hm⟩ := List.mem_flatMap.1 hu
  simp [Mend.cells] at hm
  rcases hm with rfl | rfl <;> rfl
theorem SLint_own {w : World} {B base : Nat} {e : TypeId} {v : Value} {xs : List Int} (h : w.ownsRow base e 1 v xs.length (xs.flatMap intCells)) (hB : w.heap.size ≤ B) : rpInt.SL w B xs v :=
  Rp.SL.of_own (r := rpInt) (fun _ _ _ => rfl) (fun _ => rfl) h hB
theorem SLbyte_own {w : World} {B base : Nat} {e : TypeId} {v : Value} {xs : List UInt8} (h : w.ownsRow base e 1 v xs.length (xs.flatMap byteCells)) (hB : w.heap.size ≤ B) : rpByte.SL w B xs v :=
  Rp.SL.of_own (r := rpByte) (fun _ _ _ => rfl) (fun _ => rfl) h hB
theorem SLMend_own {w : World} {B base : Nat} {e : TypeId} {v : Value} {xs : List Mend} (h : w.ownsRow base e 2 v xs.length (xs.flatMap Mend.cells)) (hB : w.heap.size ≤ B) : rpMend.SL w B xs v :=
  Rp.SL.of_own (r := rpMend) (fun _ _ _ => rpMend_rep.2 rfl) (fun _ => rfl) h hB

set_option maxHeartbeats 400000 in
theorem Cloneint_calls (v : Value) (xs : List Int) (w : World) (h : rpInt.SL w w.heap.size xs v) (hn : xs.length ≤ 4294967296) (R : Ending → World → Prop)
    (hR : ∀ w' v', Below w.heap.size w w' → w'.ownsRow w.heap.size 3 1 v' xs.length (xs.flatMap intCells) → R (.returned v') w') :
    Calls Tryz.prog 46 #[v] w R := by
  obtain ⟨A, c, rfl, hm, hcap, h⟩ := h.cases_
  obtain ⟨i0, hi, hz0, hz1, hz2⟩ := info_parts info_int3
  have hnil := fun w => Lib.run_eql_slice_nil (P := Tryz.prog) w 31 3 A xs.length c 0 0 Tryz.underlying31
  cases A with
  | none =>
    have hx : xs = [] := by
      rcases Nat.eq_zero_or_pos xs.length with h0 | hp
      · exact List.eq_nil_of_length_eq_zero h0
      · obtain ⟨b, off, _, hA, _⟩ := h.at_ (List.getElem?_eq_getElem hp)
        cases hA
    subst hx
    clear hnil
    have hnil := fun w => Lib.run_eql_slice_nil (P := Tryz.prog) w 31 3 none 0 c 0 0 Tryz.underlying31
    go_enter Tryz.func46, Tryz.ntmps46
    go_wp2
    exact hR _ _ (Below.refl _ _) (World.ownsRow_nil _ _ _ _)
  | some a =>
    have hnews : ∀ j u, (xs.flatMap intCells)[j]? = some u → w.cell? (a.add j) = some u := h.news (fun _ _ _ _ h => h) (fun _ => rfl) (by decide)
    have hlt : ∀ j u, (xs.flatMap intCells)[j]? = some u → a.block < w.heap.size := fun j u hj => by
      have := World.block_lt_of_cell? w _ (hnews j u hj)
      rwa [addr_block] at this
    have Hn := Lib.hid hnews
    have Hl := Lib.hid hlt
    clear hnews hlt h
    go_enter Tryz.func46, Tryz.ntmps46
    go_wp2_with (at_builtin; refine wpList_append_own _ rfl _ _ 31 rfl w.heap.size 3 i0 _ 1 8 Tryz.underlying31 hi hz0 hz1 hz2 rfl (by decide) (.slice (some ⟨w.heap.size, 0, none⟩) 0 0) 0 [] rfl ?_ a xs.length c (xs.flatMap intCells) rfl (flat_length intCells 1 (fun _ => rfl) xs) ?_ ?_ ?_ ?_ ?_ ?_)
    · exact ⟨rfl, .inr ⟨w.heap.size, 0, #[], rfl, Nat.le_refl _, heap_alloc_new w _, Nat.le_refl _, Nat.zero_le _, rfl, rfl⟩⟩
    · intro j u hj
      have hb := Hl.out j u hj
      rw [World.cell?_alloc_lt _ _ _ (by rw [addr_block]; exact hb)]
      exact Hn.out j u hj
    · exact one_int xs
    · unfold maxLen; omega
    · omega
    · simp
    · intro v' w1 hown hgrow _
      go_wp2
      refine hR _ _ ((Below.refl _ _).alloc (Nat.le_refl _) _ |>.grown hgrow (by simp) (fun k hk => by simp [Value.ownBlock] at hk; omega)) ?_
      simpa using hown
set_option maxHeartbeats 400000 in
theorem Clonebyte_calls (v : Value) (xs : List UInt8) (w : World) (h : rpByte.SL w w.heap.size xs v) (hn : xs.length ≤ 4294967296) (R : Ending → World → Prop)
    (hR : ∀ w' v', Below w.heap.size w w' → w'.ownsRow w.heap.size 5 1 v' xs.length (xs.flatMap byteCells) → R (.returned v') w') :
    Calls Tryz.prog 47 #[v] w R := by
  obtain ⟨A, c, rfl, hm, hcap, h⟩ := h.cases_
  obtain ⟨i0, hi, hz0, hz1, hz2⟩ := info_parts info_byte
  have hnil := fun w => Lib.run_eql_slice_nil (P := Tryz.prog) w 25 5 A xs.length c 0 0 Tryz.underlying25
  cases A with
  | none =>
    have hx : xs = [] := by
      rcases Nat.eq_zero_or_pos xs.length with h0 | hp
      · exact List.eq_nil_of_length_eq_zero h0
      · obtain ⟨b, off, _, hA, _⟩ := h.at_ (List.getElem?_eq_getElem hp)
        cases hA
    subst hx
    clear hnil
    have hnil := fun w => Lib.run_eql_slice_nil (P := Tryz.prog) w 25 5 none 0 c 0 0 Tryz.underlying25
    go_enter Tryz.func47, Tryz.ntmps47
    go_wp2
    exact hR _ _ (Below.refl _ _) (World.ownsRow_nil _ _ _ _)
  | some a =>
    have hnews : ∀ j u, (xs.flatMap byteCells)[j]? = some u → w.cell? (a.add j) = some u := h.news (fun _ _ _ _ h => h) (fun _ => rfl) (by decide)
    have hlt : ∀ j u, (xs.flatMap byteCells)[j]? = some u → a.block < w.heap.size := fun j u hj => by
      have := World.block_lt_of_cell? w _ (hnews j u hj)
      rwa [addr_block] at this
    have Hn := Lib.hid hnews
    have Hl := Lib.hid hlt
    clear hnews hlt h
    go_enter Tryz.func47, Tryz.ntmps47
    go_wp2_with (at_builtin; refine wpList_append_own _ rfl _ _ 25 rfl w.heap.size 5 i0 _ 1 1 Tryz.underlying25 hi hz0 hz1 hz2 rfl (by decide) (.slice (some ⟨w.heap.size, 0, none⟩) 0 0) 0 [] rfl ?_ a xs.length c (xs.flatMap byteCells) rfl (flat_length byteCells 1 (fun _ => rfl) xs) ?_ ?_ ?_ ?_ ?_ ?_)
    · exact ⟨rfl, .inr ⟨w.heap.size, 0, #[], rfl, Nat.le_refl _, heap_alloc_new w _, Nat.le_refl _, Nat.zero_le _, rfl, rfl⟩⟩
    · intro j u hj
      have hb := Hl.out j u hj
      rw [World.cell?_alloc_lt _ _ _ (by rw [addr_block]; exact hb)]
      exact Hn.out j u hj
    · exact one_byte xs
    · unfold maxLen; omega
    · omega
    · simp
    · intro v' w1 hown hgrow _
      go_wp2
      refine hR _ _ ((Below.refl _ _).alloc (Nat.le_refl _) _ |>.grown hgrow (by simp) (fun k hk => by simp [Value.ownBlock] at hk; omega)) ?_
      simpa using hown
set_option maxHeartbeats 400000 in
theorem CloneMend_calls (v : Value) (xs : List Mend) (w : World) (h : rpMend.SL w w.heap.size xs v) (hn : xs.length ≤ 4294967296) (R : Ending → World → Prop)
    (hR : ∀ w' v', Below w.heap.size w w' → w'.ownsRow w.heap.size 84 2 v' xs.length (xs.flatMap Mend.cells) → R (.returned v') w') :
    Calls Tryz.prog 48 #[v] w R := by
  obtain ⟨A, c, rfl, hm, hcap, h⟩ := h.cases_
  obtain ⟨i0, hi, hz0, hz1, hz2⟩ := info_parts info_Mend
  have hnil := fun w => Lib.run_eql_slice_nil (P := Tryz.prog) w 56 84 A xs.length c 0 0 Tryz.underlying56
  cases A with
  | none =>
    have hx : xs = [] := by
      rcases Nat.eq_zero_or_pos xs.length with h0 | hp
      · exact List.eq_nil_of_length_eq_zero h0
      · obtain ⟨b, off, _, hA, _⟩ := h.at_ (List.getElem?_eq_getElem hp)
        cases hA
    subst hx
    clear hnil
    have hnil := fun w => Lib.run_eql_slice_nil (P := Tryz.prog) w 56 84 none 0 c 0 0 Tryz.underlying56
    go_enter Tryz.func48, Tryz.ntmps48
    go_wp2
    exact hR _ _ (Below.refl _ _) (World.ownsRow_nil _ _ _ _)
  | some a =>
    have hnews : ∀ j u, (xs.flatMap Mend.cells)[j]? = some u → w.cell? (a.add j) = some u := h.news (fun _ _ _ _ h => rpMend_rep.1 h) (fun _ => rfl) (by decide)
    have hlt : ∀ j u, (xs.flatMap Mend.cells)[j]? = some u → a.block < w.heap.size := fun j u hj => by
      have := World.block_lt_of_cell? w _ (hnews j u hj)
      rwa [addr_block] at this
    have Hn := Lib.hid hnews
    have Hl := Lib.hid hlt
    clear hnews hlt h
    go_enter Tryz.func48, Tryz.ntmps48
    go_wp2_with (at_builtin; refine wpList_append_own _ rfl _ _ 56 rfl w.heap.size 84 i0 _ 2 24 Tryz.underlying56 hi hz0 hz1 hz2 rfl (by decide) (.slice (some ⟨w.heap.size, 0, none⟩) 0 0) 0 [] rfl ?_ a xs.length c (xs.flatMap Mend.cells) rfl (flat_length Mend.cells 2 (fun _ => rfl) xs) ?_ ?_ ?_ ?_ ?_ ?_)
    · exact ⟨rfl, .inr ⟨w.heap.size, 0, #[], rfl, Nat.le_refl _, heap_alloc_new w _, Nat.le_refl _, Nat.zero_le _, rfl, rfl⟩⟩
    · intro j u hj
      have hb := Hl.out j u hj
      rw [World.cell?_alloc_lt _ _ _ (by rw [addr_block]; exact hb)]
      exact Hn.out j u hj
    · exact one_Mend xs
    · unfold maxLen; omega
    · omega
    · simp
    · intro v' w1 hown hgrow _
      go_wp2
      refine hR _ _ ((Below.refl _ _).alloc (Nat.le_refl _) _ |>.grown hgrow (by simp) (fun k hk => by simp [Value.ownBlock] at hk; omega)) ?_
      simpa using hown
end Go.Proofs.YtcakodemngchpaaGreatDoor

/- Words for variables of two cells: blocks known whole, behind stores; the results Object and Fault. -/
namespace Go.Proofs.YtcakodemngchpaaGreatDoor
open Go.RowKit
set_option linter.unusedSimpArgs false
set_option linter.unusedVariables false

theorem blk_drew {w : World} {b : Nat} {X : Obj} (h : w.heap[b]? = some X) : w.drew.heap[b]? = some X := h
theorem blk_drewN {w : World} {b : Nat} {X : Obj} (h : w.heap[b]? = some X) (n : Nat) : (w.drewN n).heap[b]? = some X := h
theorem blk_alloc {w : World} {b : Nat} {X : Obj} (h : w.heap[b]? = some X) (o : Obj) : (w.alloc o).heap[b]? = some X :=
  (Below.heap_alloc w o b (Array.getElem?_eq_some_iff.1 h).1).trans h
theorem blk_set0 {w : World} {b : Nat} {x y : Value} {T : TypeId} (h : w.heap[b]? = some (.cells #[x, y] T (0, 0))) (u : Value) : (w.setCell ⟨b, 0, none⟩ u).heap[b]? = some (.cells #[u, y] T (0, 0)) := by
  rw [block_set h]
  rfl
theorem blk_set1 {w : World} {b : Nat} {x y : Value} {T : TypeId} (h : w.heap[b]? = some (.cells #[x, y] T (0, 0))) (u : Value) : (w.setCell ⟨b, 1, none⟩ u).heap[b]? = some (.cells #[x, u] T (0, 0)) := by
  rw [block_set h]
  rfl
theorem blk_other {w : World} {b c j : Nat} {X : Obj} (h : w.heap[b]? = some X) (hne : b ≠ c) (u : Value) : (w.setCell ⟨c, j, none⟩ u).heap[b]? = some X :=
  (Below.heap_setCell _ _ _ _ hne).trans h
theorem blkp {P Q : Prop} (h0 : P) (h : P → Q := by intro hX; repeat (first | with_reducible exact hX | with_reducible refine blk_drew ?_ | with_reducible refine blk_drewN ?_ _ | with_reducible refine blk_alloc ?_ _ | with_reducible apply blk_set1 | with_reducible apply blk_set0 | with_reducible refine blk_other ?_ (by first | (simp; done) | omega | (simp; omega)) _)) : Q := h h0
theorem blk_lt {w : World} {b : Nat} {X : Obj} (h : w.heap[b]? = some X) : b < w.heap.size := (Array.getElem?_eq_some_iff.1 h).1
theorem cells_blk {w : World} {p : Nat} {u v : Value} {T : TypeId} (h : w.heap[p]? = some (.cells #[u, v] T (0, 0))) : w.cell? ⟨p, 0, none⟩ = some u ∧ w.cell? ⟨p, 1, none⟩ = some v :=
  ⟨(cells_of_block h).1, (cells_of_block h).2.1⟩
theorem res_Obj {fn : Func} {p : Tmp} (h : fn.results = #[.cell p 40]) {tmps : Array Value} {b : Nat} {w : World} {x y : Value} {T : TypeId} (hp : tmps.getD p undef = .pointer (some ⟨b, 0, none⟩))
    (hc : w.heap[b]? = some (.cells #[x, y] T (0, 0))) : (results fn tmps).run Tryz.prog w = .ok (.agg #[x, y]) w := by
  obtain ⟨c0, c1⟩ := cells_blk hc
  rw [Array.getD_eq_getD_getElem?] at hp
  simp [results, h, hp, go_sem, c0, c1]
end Go.Proofs.YtcakodemngchpaaGreatDoor

/- object.Copy: the same object, in memory of its own. -/
namespace Go.Proofs.YtcakodemngchpaaGreatDoor
open Go.RowKit
set_option linter.unusedSimpArgs false
set_option linter.unusedVariables false

theorem info_Global : (Tryz.prog.info? 118).map (fun i => (i.zero, i.size, i.bytes)) = some (some (.agg #[.string ByteArray.empty, .int .i64 0, .slice none 0 0]), 3, 48) := by kernel_rfl
theorem info_Section : (Tryz.prog.info? 58).map (fun i => (i.zero, i.size, i.bytes)) = some (some (.agg #[.string ByteArray.empty, .slice none 0 0, .slice none 0 0]), 3, 64) := by kernel_rfl

theorem rpGlobal_mk {w : World} {B : Nat} {g : Global} {v : Value} (h : rpInt.SL w B g.init v) : rpGlobal.rep w B g [.string g.name, .int .i64 g.size, v] :=
  ⟨[.string g.name], [.int .i64 g.size, v], rfl, rfl, [.int .i64 g.size], [v], rfl, rfl, v, rfl, h⟩
theorem rpSection_mk {w : World} {B : Nat} {s : Section} {v1 v2 : Value} (h1 : rpByte.SL w B s.code v1) (h2 : rpMend.SL w B s.mends v2) : rpSection.rep w B s [.string s.name, v1, v2] :=
  ⟨[.string s.name], [v1, v2], rfl, rfl, [v1], [v2], rfl, ⟨v1, rfl, h1⟩, v2, rfl, h2⟩
theorem take_snoc {α : Type} {xs : List α} {k : Nat} {x : α} (h : xs[k]? = some x) : xs.take (k + 1) = xs.take k ++ [x] := by
  have hk := (List.getElem?_eq_some_iff.1 h).1
  rw [List.take_succ_eq_append_getElem hk, (List.getElem?_eq_some_iff.1 h).2]

theorem ownsRow_below {w w' : World} {B base : Nat} {e : TypeId} {size : Nat} {v : Value} {n : Nat} {xs : List Value} (h : w.ownsRow base e size v n xs) (hb : Below B w w') (hB : w.heap.size ≤ B) : w'.ownsRow base e size v n xs :=
  h.kept (row := none) ⟨hb.os, hb.tape, hb.output, hb.size, fun k hk _ => hb.block k (by omega)⟩ (by cases hv : v.ownBlock <;> simp)
theorem grown_row {a b c : World} {p : Nat} {row : Option Nat} (h : a.grownBy b (some p)) (k : b.grownBy c row) (hr : ∀ j, row = some j → a.heap.size ≤ j) : a.grownBy c (some p) :=
  ⟨k.os.trans h.os, k.tape.trans h.tape, k.output.trans h.output, Nat.le_trans h.size k.size, fun i hi hne => (k.block i (Nat.lt_of_lt_of_le hi h.size) (fun e => by have := hr i e.symm; omega)).trans (h.block i hi hne)⟩
theorem sec_meet {wr wa w5 w6 : World} {s : Section} {x y A5 A6 : Value} (hwa : wa.heap[wr.heap.size]? = some (.cells #[.string s.name, x, y] 58 (0, 0))) (hsz : wa.heap.size = wr.heap.size + 1) (hwb : Below wr.heap.size wr wa)
    (hb5 : Below wa.drew.heap.size wa.drew w5) (h5 : w5.ownsRow wa.drew.heap.size 5 1 A5 s.code.length (s.code.flatMap byteCells))
    (hb6 : Below w5.heap.size w5 w6) (h6 : w6.ownsRow w5.heap.size 84 2 A6 s.mends.length (s.mends.flatMap Mend.cells)) :
    ∃ u1 u2, ((w6.setCell ⟨wr.heap.size, 1, none⟩ A5).setCell ⟨wr.heap.size, 2, none⟩ A6).heap[wr.heap.size]? = some (.cells #[.string s.name, u1, u2] 58 (0, 0)) ∧
      ((w6.setCell ⟨wr.heap.size, 1, none⟩ A5).setCell ⟨wr.heap.size, 2, none⟩ A6).ownsRow (wr.heap.size + 1) 5 1 u1 s.code.length (s.code.flatMap byteCells) ∧
      ((w6.setCell ⟨wr.heap.size, 1, none⟩ A5).setCell ⟨wr.heap.size, 2, none⟩ A6).ownsRow (wr.heap.size + 1) 84 2 u2 s.mends.length (s.mends.flatMap Mend.cells) ∧ Below wr.heap.size wr ((w6.setCell ⟨wr.heap.size, 1, none⟩ A5).setCell ⟨wr.heap.size, 2, none⟩ A6) := by
  have hd : wa.drew.heap.size = wr.heap.size + 1 := hsz
  have hb5' := hb5
  rw [hd] at hb5 h5
  have h5s := hb5.size
  rw [hd] at h5s
  have hblk : w6.heap[wr.heap.size]? = some (.cells #[.string s.name, x, y] 58 (0, 0)) := (hb6.block _ (by omega)).trans ((hb5.block _ (by omega)).trans hwa)
  have o5 : w6.ownsRow (wr.heap.size + 1) 5 1 A5 s.code.length (s.code.flatMap byteCells) := ownsRow_below h5 hb6 (Nat.le_refl _)
  have o6 : w6.ownsRow (wr.heap.size + 1) 84 2 A6 s.mends.length (s.mends.flatMap Mend.cells) := ownsRow_base h6 h5s
  have hbw : Below wr.heap.size wr w6 := (hwb.drew.trans (hb5.mono (by omega))).trans (hb6.mono (by omega))
  refine ⟨A5, A6, ?_, ownsRow_setCell_below (a := ⟨wr.heap.size, 2, none⟩) (ownsRow_setCell_below (a := ⟨wr.heap.size, 1, none⟩) o5 (Nat.lt_succ_self _) _) (Nat.lt_succ_self _) _, ownsRow_setCell_below (a := ⟨wr.heap.size, 2, none⟩) (ownsRow_setCell_below (a := ⟨wr.heap.size, 1, none⟩) o6 (Nat.lt_succ_self _) _) (Nat.lt_succ_self _) _, ?_⟩
  · rw [block_set (block_set hblk _)]
    rfl
  · exact (hbw.setCell (p := ⟨wr.heap.size, 1, none⟩) (Nat.le_refl _) A5).setCell (p := ⟨wr.heap.size, 2, none⟩) (Nat.le_refl _) A6

theorem res_Object {fn : Func} {p : Tmp} (h : fn.results = #[.cell p 40]) {tmps : Array Value} {b : Nat} {w : World} {x y : Value} (hp : tmps.getD p undef = .pointer (some ⟨b, 0, none⟩))
    (hc : w.cell? ⟨b, 0, none⟩ = some x ∧ w.cell? ⟨b, 1, none⟩ = some y) : (results fn tmps).run Tryz.prog w = .ok (.agg #[x, y]) w := by
  rw [Array.getD_eq_getD_getElem?] at hp
  simp [results, h, hp, go_sem, hc.1, hc.2]

set_option maxRecDepth 100000 in
set_option maxHeartbeats 4000000 in
theorem Copy_calls (o : Object) (v1 v2 : Value) (w : World) (h1 : rpGlobal.SL w w.heap.size o.globals v1) (h2 : rpSection.SL w w.heap.size o.sections v2)
    (hg : o.globals.length ≤ 1048576 ∧ ∀ g ∈ o.globals, g.init.length ≤ 1048576) (hs : o.sections.length ≤ 1048576 ∧ ∀ s ∈ o.sections, s.code.length ≤ 1048576 ∧ s.mends.length ≤ 1048576) (R : Ending → World → Prop)
    (hR : ∀ w' u1 u2, Below w.heap.size w w' → rpGlobal.SLF w' w.heap.size w'.heap.size o.globals u1 → rpSection.SLF w' w.heap.size w'.heap.size o.sections u2 → R (.returned (.agg #[u1, u2])) w') :
    Calls Tryz.prog 22 #[.agg #[v1, v2]] w R := by
  obtain ⟨A1, n1, rfl, hm1, hcap1, h1⟩ := h1.cases_
  obtain ⟨A2, n2, rfl, hm2, hcap2, h2⟩ := h2.cases_
  obtain ⟨iG, hiG, zG0, zG1, zG2⟩ := info_parts info_Global
  obtain ⟨iS, hiS, zS0, zS1, zS2⟩ := info_parts info_Section
  have HR := Lib.hid hR
  have H1 := Lib.hid h1
  have H2 := Lib.hid h2
  have Hg := Lib.hid hg
  have Hs := Lib.hid hs
  clear hR h1 h2 hg hs
  go_enter Tryz.func22, Tryz.ntmps22
  go_wp2
  go_loopg [5, 11] o.globals.length (fun g s5 i wr => ∃ (k : Nat) (v : Value) (css : List (List Value)), k ≤ o.globals.length ∧ g = o.globals.length - k ∧ i = .int .i64 k ∧
    wr.heap[w.heap.size + 2]? = some (.cells #[v, .slice none 0 0] 40 (0, 0)) ∧ Built rpGlobal (w.heap.size + 3) 118 (fun b => b < w.heap.size + 3) wr v (o.globals.take k) css ∧
    Below (w.heap.size + 2) ((w.alloc (Obj.cells #[.slice A1 o.globals.length n1, .slice A2 o.sections.length n2] 40)).alloc (Obj.cells #[.slice none 0 0, .slice none 0 0] 40)) wr)
  case atStart =>
    refine ⟨0, _, [], Nat.zero_le _, rfl, rfl, ?_, Built.nil _ _ _ _ _ (fun k hk => by omega), bl0⟩
    have := heap_alloc_new ((w.alloc (Obj.cells #[.slice A1 o.globals.length n1, .slice A2 o.sections.length n2] 40)).alloc (Obj.cells #[.slice none 0 0, .slice none 0 0] 40)) (Obj.cells #[.slice none 0 0, .slice none 0 0] 40)
    simpa using this
  case round =>
    obtain ⟨k, v, css, hk, rfl, rfl, hO, hB, hbel⟩ := hrel
    have hz := hbel.size
    simp at hz
    have hbw : Below w.heap.size w wr := ((Below.refl _ _).alloc (Nat.le_refl _) _ |>.alloc (by simp) _).trans (hbel.mono (by omega))
    have Hbw := Lib.hid hbw
    have Hb := Lib.hid hbel
    have HO := Lib.hid hO
    have HB := Lib.hid hB
    have i1 : (0 : Int) ≤ (k : Int) := Int.natCast_nonneg _
    obtain ⟨c0, c1, z0, z1⟩ := cells_of_block hO
    have hzO : w.heap.size + 2 < wr.heap.size := (Array.getElem?_eq_some_iff.1 hO).1
    clear hO hB hbel
    by_cases hlt : k < o.globals.length
    · obtain ⟨b, off, g, v3, rfl, hb, e, h3, q0, q1, q2⟩ := H1.out.global_at hlt
      have p0 := (hbw.cell (p := ⟨b, off + k * 3, none⟩) hb).trans q0
      have p1 := (hbw.cell (p := ⟨b, off + k * 3 + 1, none⟩) hb).trans q1
      have p2 := (hbw.cell (p := ⟨b, off + k * 3 + 2, none⟩) hb).trans q2
      have i2 : (k : Int) < (o.globals.length : Int) := by omega
      have hb' : b < wr.heap.size := by omega
      obtain ⟨A3, n3, rfl, hm3, hcap3, h3⟩ := h3.cases_
      have hgl : g.init.length ≤ 1048576 := Hg.out.2 g (List.mem_of_getElem? e)
      have H3 := Lib.hid h3
      have E := Lib.hid e
      clear q0 q1 q2 h3 e hbw
      have hin := Lib.hid (H3.out.up (B' := wr.heap.size + 1) (Hbw.out.alloc (by omega) (Obj.cells #[.string g.name, .int .i64 g.size, (.slice A3 g.init.length n3)] 118)) (by omega))
      go_wp2_with fail
      refine Cloneint_calls (.slice A3 g.init.length n3) g.init _ (by simpa using hin.out) (by omega) _ (fun w1 v' hb1 hown1 => ?_)
      obtain ⟨A4, n4, rfl⟩ := own_slice hown1
      have hz1 : wr.heap.size < w1.heap.size := by have := hb1.size; simp at this; omega
      have hb1' : Below (wr.heap.size + 1) (wr.alloc (Obj.cells #[.string g.name, .int .i64 g.size, (.slice A3 g.init.length n3)] 118)) w1 := by simpa using hb1
      have hbb1 : Below wr.heap.size wr w1 := ((Below.refl _ _).alloc (Nat.le_refl _) _).trans (hb1'.mono (by omega))
      have m0 : w1.cell? ⟨wr.heap.size, 0, none⟩ = some (.string g.name) := by rw [hb1'.cell (by simp)]; simp
      have m1 : w1.cell? ⟨wr.heap.size, 1, none⟩ = some (.int .i64 g.size) := by rw [hb1'.cell (by simp)]; simp
      have m2 : w1.cell? ⟨wr.heap.size, 2, none⟩ = some (.slice A3 g.init.length n3) := by rw [hb1'.cell (by simp)]; simp
      have y2 : w1.frozen? ⟨wr.heap.size, 2, none⟩ = false := by rw [hb1'.frozen (by simp)]; simp
      have hO1 : w1.heap[w.heap.size + 2]? = some (.cells #[v, .slice none 0 0] 40 (0, 0)) := (hbb1.block _ hzO).trans HO.out
      obtain ⟨d0, d1, e0, e1⟩ := cells_of_block hO1
      have hown2 : w1.ownsRow (wr.heap.size + 1) 3 1 (.slice A4 g.init.length n4) g.init.length (g.init.flatMap intCells) := by simpa using hown1
      have HO1 := Lib.hid hO1
      have hset := hbb1.setCell (p := ⟨wr.heap.size, 2, none⟩) (Nat.le_refl _) (.slice A4 g.init.length n4)
      have HB1 := Lib.hid (HB.out.below hset (Nat.le_refl _))
      have Hset := Lib.hid hset
      clear hset
      have Hown2 := Lib.hid hown2
      have Hbb1 := Lib.hid hbb1
      have hne : (⟨wr.heap.size, 2, none⟩ : Addr).block ≠ w.heap.size + 2 := by simp; omega
      have Hne := Lib.hid hne
      clear hb1 hb1' hbb1 hO1 hown1 hown2 hne c0 c1 z0 z1
      have hlk : (o.globals.take k).length = k := by rw [List.length_take]; omega
      have HW : Hid (((w1.setCell ⟨wr.heap.size, 2, none⟩ (.slice A4 g.init.length n4)).alloc (Obj.cells #[.string g.name, .int .i64 g.size, .slice A4 g.init.length n4] 118)).ownsRow (w.heap.size + 3) 118 3 v k css.flatten) := Lib.hid (by
        have := (HB1.out.alloc (Obj.cells #[.string g.name, .int .i64 g.size, .slice A4 g.init.length n4] 118)).own
        rwa [hlk] at this)
      have hO2 : Hid (((w1.setCell ⟨wr.heap.size, 2, none⟩ (.slice A4 g.init.length n4)).alloc (Obj.cells #[.string g.name, .int .i64 g.size, .slice A4 g.init.length n4] 118)).heap[w.heap.size + 2]? = some (.cells #[v, .slice none 0 0] 40 (0, 0))) := Lib.hid ((Below.heap_alloc _ _ _ (by simp [World.setCell]; omega)).trans ((Hset.out.block _ hzO).trans HO.out))
      have hnO : Hid (v.ownBlock ≠ some (w.heap.size + 2) ∧ ∀ j, v.ownBlock = some j → w.heap.size + 2 ≤ j) := Lib.hid ⟨fun e => by have := (HB.out.own.lt _ e).1; omega, fun j e => by have := (HB.out.own.lt _ e).1; omega⟩
      have HA : Hid (Apart rpGlobal (fun b => b < w.heap.size + 3) ((w1.setCell ⟨wr.heap.size, 2, none⟩ (.slice A4 g.init.length n4)).alloc (Obj.cells #[.string g.name, .int .i64 g.size, .slice A4 g.init.length n4] 118)) v g [.string g.name, .int .i64 g.size, .slice A4 g.init.length n4]) := Lib.hid (by
        refine Apart.of_only (base := wr.heap.size + 1) (rpGlobal_mk (SLint_own (ownsRow_only ((ownsRow_setCell_below Hown2.out (Nat.lt_succ_self _) _).alloc _)) (by rw [only_size]; omega))) (fun j hj => by omega) (fun j hj => ?_)
        have := (HB.out.own.lt _ hj).2
        omega)
      have hset2 : Hid (Below wr.heap.size wr ((w1.setCell ⟨wr.heap.size, 2, none⟩ (.slice A4 g.init.length n4)).alloc (Obj.cells #[.string g.name, .int .i64 g.size, .slice A4 g.init.length n4] 118))) := Lib.hid (Hset.out.alloc (by simp [World.setCell]; omega) _)
      have HB2 := Lib.hid (HB1.out.alloc (Obj.cells #[.string g.name, .int .i64 g.size, .slice A4 g.init.length n4] 118))
      have hsz : ((w1.setCell ⟨wr.heap.size, 2, none⟩ (.slice A4 g.init.length n4)).alloc (Obj.cells #[.string g.name, .int .i64 g.size, .slice A4 g.init.length n4] 118)).heap.size = w1.heap.size + 1 := by simp [World.setCell]
      have Hsz := Lib.hid hsz
      have Hlk := Lib.hid hlk
      clear hlk hsz HB1 Hset
      go_wp2_with (at_builtin; refine wpList_append_lies _ rfl _ _ 37 rfl (w.heap.size + 3) 118 iG _ 3 48 Tryz.underlying37 hiG zG0 zG1 zG2 rfl (by decide) v k css.flatten rfl HW.out ⟨w1.heap.size, 0, none⟩ 1 1 [.string g.name, .int .i64 g.size, .slice A4 g.init.length n4] rfl rfl ?_ ?_ (by decide) ?_ ?_ ?_ _ rfl ?_)
      · exact World.news_of_block (cs := #[.string g.name, .int .i64 g.size, .slice A4 g.init.length n4]) (t := 118) (fr := (0, 0)) (by have := heap_alloc_new (w1.setCell ⟨wr.heap.size, 2, none⟩ (.slice A4 g.init.length n4)) (Obj.cells #[.string g.name, .int .i64 g.size, .slice A4 g.init.length n4] 118); simpa [World.setCell] using this)
      · simp [Value.oneCell']
      · unfold maxLen; omega
      · have := Hg.out.1; omega
      · rw [Hsz.out]; omega
      · intro gb cap w3 hown3 hgrow3 hat3 hlt3
        have hB3 := HB2.out.push hown3 (by rw [Hlk.out]) hgrow3 (by rw [Hsz.out]; exact hat3) HA.out
        have hO3 := block_grown hgrow3 hO2.out hnO.out.1
        obtain ⟨c0, c1, z0, z1⟩ := cells_of_block hO3
        have hbel3 := (Hb.out.trans (hset2.out.mono (by omega))).grown hgrow3 (by rw [Hsz.out]; omega) hnO.out.2
        have hO4 : Hid (∀ u, (w3.setCell ⟨w.heap.size + 2, 0, none⟩ u).heap[w.heap.size + 2]? = some (.cells #[u, .slice none 0 0] 40 (0, 0))) := Lib.hid fun u => by rw [block_set hO3]; rfl
        have HB3 := Lib.hid hB3
        have Hbel3 := Lib.hid hbel3
        clear hB3 hO3 hbel3 hown3 hgrow3 hat3
        go_wp2
        go_roundg (o.globals.length - (k + 1))
        case measure => omega
        case rel =>
          refine ⟨k + 1, _, css ++ [[.string g.name, .int .i64 g.size, .slice A4 g.init.length n4]], hlt, rfl, by go_num, hO4.out _, ?_, Hbel3.out.setCell (p := ⟨w.heap.size + 2, 0, none⟩) (by simp) _⟩
          rw [take_snoc E.out]
          exact HB3.out.setCell _ (by simp <;> omega) _
    · obtain rfl : k = o.globals.length := by omega
      rw [List.take_length] at HB
      have hdone := Lib.hid hbw
      have p1 : wr.cell? ⟨w.heap.size, 1, none⟩ = some (.slice A2 o.sections.length n2) := by rw [Hb.out.cell (by simp)]; simp
      have hw0 : w.heap.size < wr.heap.size := by omega
      clear hbw
      go_wp2
      obtain ⟨W1, rfl⟩ : ∃ W1 : World, W1 = wr := ⟨_, rfl⟩
      go_loopg [7, 29] o.sections.length (fun g s7 i wr => ∃ (k : Nat) (v2 : Value) (css2 : List (List Value)), k ≤ o.sections.length ∧ g = o.sections.length - k ∧ i = .int .i64 k ∧
        wr.heap[w.heap.size + 2]? = some (.cells #[v, v2] 40 (0, 0)) ∧ Built rpSection W1.heap.size 58 (fun b => b < W1.heap.size) wr v2 (o.sections.take k) css2 ∧ W1.grownBy wr (some (w.heap.size + 2)))
      case atStart => exact ⟨0, _, [], Nat.zero_le _, rfl, rfl, HO.out, Built.nil _ _ _ _ _ (fun k hk => by omega), grown_refl _ _⟩
      case round =>
        obtain ⟨k, v2, css2, hk2, rfl, rfl, hO, hB, hgr⟩ := hrel
        have hz2 := hgr.size
        have HO2 := Lib.hid hO
        have HB2 := Lib.hid hB
        have Hgr := Lib.hid hgr
        have hbw : Below w.heap.size w wr := hdone.out.trans (grown_below hgr (by omega) (by omega))
        have j1 : (0 : Int) ≤ (k : Int) := Int.natCast_nonneg _
        obtain ⟨d0, d1, y0, y1⟩ := cells_of_block hO
        have hzO2 : w.heap.size + 2 < wr.heap.size := (Array.getElem?_eq_some_iff.1 hO).1
        clear hO hB hgr c0 c1 z0 z1 p1
        by_cases hlt2 : k < o.sections.length
        · obtain ⟨b, off, s, v3, v4, rfl, hb, e, h3, h4, q0, q1, q2⟩ := H2.out.section_at hlt2
          have p0 := (hbw.cell (p := ⟨b, off + k * 3, none⟩) hb).trans q0
          have p1 := (hbw.cell (p := ⟨b, off + k * 3 + 1, none⟩) hb).trans q1
          have p2 := (hbw.cell (p := ⟨b, off + k * 3 + 2, none⟩) hb).trans q2
          have i2 : (k : Int) < (o.sections.length : Int) := by omega
          have hb' : b < wr.heap.size := by omega
          obtain ⟨A3, n3, rfl, hm3, hcap3, h3⟩ := h3.cases_
          obtain ⟨A4, n4, rfl, hm4, hcap4, h4⟩ := h4.cases_
          have hsl := Hs.out.2 s (List.mem_of_getElem? e)
          have Hbw := Lib.hid hbw
          have H3 := Lib.hid h3
          have H4 := Lib.hid h4
          have E := Lib.hid e
          clear q0 q1 q2 h3 h4 e hbw
          have Hcode : Hid (∀ W, Below wr.heap.size wr W → rpByte.SL W W.heap.size s.code (.slice A3 s.code.length n3)) := Lib.hid fun W h => H3.out.up (Hbw.out.trans (h.mono (by omega))) (by have := h.size; omega)
          have Hmend : Hid (∀ W, Below wr.heap.size wr W → rpMend.SL W W.heap.size s.mends (.slice A4 s.mends.length n4)) := Lib.hid fun W h => H4.out.up (Hbw.out.trans (h.mono (by omega))) (by have := h.size; omega)
          go_upto_region 11 with fail
          have hwa := heap_alloc_new wr (Obj.cells #[.string s.name, .slice A3 s.code.length n3, .slice A4 s.mends.length n4] 58)
          have hwb : Below wr.heap.size wr (wr.alloc (Obj.cells #[.string s.name, .slice A3 s.code.length n3, .slice A4 s.mends.length n4] 58)) := (Below.refl _ _).alloc (Nat.le_refl _) _
          have hsz : (wr.alloc (Obj.cells #[.string s.name, .slice A3 s.code.length n3, .slice A4 s.mends.length n4] 58)).heap.size = wr.heap.size + 1 := by simp
          generalize wr.alloc (Obj.cells #[.string s.name, .slice A3 s.code.length n3, .slice A4 s.mends.length n4] 58) = wa at *
          have hV : wr.heap.size < wa.heap.size := by omega
          have hc0 : wa.cell? ⟨wr.heap.size, 0, none⟩ = some (.string s.name) := by simp [World.cell?, hwa]
          have hc1 : wa.cell? ⟨wr.heap.size, 1, none⟩ = some (.slice A3 s.code.length n3) := by simp [World.cell?, hwa]
          have hc2 : wa.cell? ⟨wr.heap.size, 2, none⟩ = some (.slice A4 s.mends.length n4) := by simp [World.cell?, hwa]
          have hf1 : wa.frozen? ⟨wr.heap.size, 1, none⟩ = false := by simp [World.frozen?, hwa]
          have hf2 : wa.frozen? ⟨wr.heap.size, 2, none⟩ = false := by simp [World.frozen?, hwa]
          have Hwa := Lib.hid hwa
          have Hsz := Lib.hid hsz
          have Hwb := Lib.hid hwb
          clear hwa hsz hwb
          go_cut [] (fun wx => ∃ u1 u2, wx.heap[wr.heap.size]? = some (.cells #[.string s.name, u1, u2] 58 (0, 0)) ∧ wx.ownsRow (wr.heap.size + 1) 5 1 u1 s.code.length (s.code.flatMap byteCells) ∧ wx.ownsRow (wr.heap.size + 1) 84 2 u2 s.mends.length (s.mends.flatMap Mend.cells) ∧ Below wr.heap.size wr wx)
          case first =>
            go_region_with (first | (go_at_call 47; refine Clonebyte_calls _ s.code _ (Hcode.out _ (by first | exact below_drewN Hwb.out _ | exact Hwb.out.drew | exact Hwb.out)) (by omega) _ ?_; intro w5 v5 hb5 hown5; obtain ⟨A5, c5, rfl⟩ := own_slice hown5; obtain ⟨hc5, hf5⟩ := bcell hb5; have hV5 : wr.heap.size < w5.heap.size := Nat.lt_of_lt_of_le (by first | assumption | (simp; assumption)) hb5.size; have k51 : w5.cell? ⟨wr.heap.size, 1, none⟩ = some (.slice A3 s.code.length n3) := (hc5 _ 1 (by first | assumption | (simp; assumption))).trans (by first | assumption | (simp; assumption)); have k52 : w5.cell? ⟨wr.heap.size, 2, none⟩ = some (.slice A4 s.mends.length n4) := (hc5 _ 2 (by first | assumption | (simp; assumption))).trans (by first | assumption | (simp; assumption)); have l51 : w5.frozen? ⟨wr.heap.size, 1, none⟩ = false := (hf5 _ 1 (by first | assumption | (simp; assumption))).trans (by first | assumption | (simp; assumption)); have l52 : w5.frozen? ⟨wr.heap.size, 2, none⟩ = false := (hf5 _ 2 (by first | assumption | (simp; assumption))).trans (by first | assumption | (simp; assumption)); clear hc5 hf5) | (go_at_call 48; refine CloneMend_calls _ s.mends _ (Hmend.out _ (below_step (by assumption) Hwb.out.drew (Nat.le_of_lt hV))) (by omega) _ ?_; intro w6 v6 hb6 hown6; obtain ⟨A6, c6, rfl⟩ := own_slice hown6; obtain ⟨hc6, hf6⟩ := bcell hb6; have hV6 : wr.heap.size < w6.heap.size := Nat.lt_of_lt_of_le (by first | assumption | (simp; assumption)) hb6.size; have k61 : w6.cell? ⟨wr.heap.size, 1, none⟩ = some (.slice A3 s.code.length n3) := (hc6 _ 1 (by first | assumption | (simp; assumption))).trans (by first | assumption | (simp; assumption)); have k62 : w6.cell? ⟨wr.heap.size, 2, none⟩ = some (.slice A4 s.mends.length n4) := (hc6 _ 2 (by first | assumption | (simp; assumption))).trans (by first | assumption | (simp; assumption)); have l61 : w6.frozen? ⟨wr.heap.size, 1, none⟩ = false := (hf6 _ 1 (by first | assumption | (simp; assumption))).trans (by first | assumption | (simp; assumption)); have l62 : w6.frozen? ⟨wr.heap.size, 2, none⟩ = false := (hf6 _ 2 (by first | assumption | (simp; assumption))).trans (by first | assumption | (simp; assumption)); clear hc6 hf6))
            all_goals
              go_wp2
              go_meet
              exact sec_meet Hwa.out Hsz.out Hwb.out hb5 hown5 hb6 hown6
          case rest =>
            rename World => wx
            obtain ⟨u1, u2, hV5, ho5, ho6, hbx⟩ := hcut
            obtain ⟨A5, c5, rfl⟩ := own_slice ho5
            obtain ⟨A6, c6, rfl⟩ := own_slice ho6
            have hzx := hbx.size
            have m0 : wx.cell? ⟨wr.heap.size, 0, none⟩ = some (.string s.name) := by simp [World.cell?, hV5]
            have m1 : wx.cell? ⟨wr.heap.size, 1, none⟩ = some (.slice A5 s.code.length c5) := by simp [World.cell?, hV5]
            have m2 : wx.cell? ⟨wr.heap.size, 2, none⟩ = some (.slice A6 s.mends.length c6) := by simp [World.cell?, hV5]
            have hVx : wr.heap.size < wx.heap.size := (Array.getElem?_eq_some_iff.1 hV5).1
            have hOx : wx.heap[w.heap.size + 2]? = some (.cells #[v, v2] 40 (0, 0)) := (hbx.block _ hzO2).trans HO2.out
            obtain ⟨g0, g1, x0, x1⟩ := cells_of_block hOx
            have hlk : (o.sections.take k).length = k := by rw [List.length_take]; omega
            have HB3 := Lib.hid ((HB2.out.below hbx (Nat.le_refl _)).alloc (Obj.cells #[.string s.name, .slice A5 s.code.length c5, .slice A6 s.mends.length c6] 58))
            have HW : Hid ((wx.alloc (Obj.cells #[.string s.name, .slice A5 s.code.length c5, .slice A6 s.mends.length c6] 58)).ownsRow W1.heap.size 58 3 v2 k css2.flatten) := Lib.hid (by
              have := HB3.out.own
              rwa [hlk] at this)
            have hO2 : Hid ((wx.alloc (Obj.cells #[.string s.name, .slice A5 s.code.length c5, .slice A6 s.mends.length c6] 58)).heap[w.heap.size + 2]? = some (.cells #[v, v2] 40 (0, 0))) := Lib.hid ((Below.heap_alloc _ _ _ (by omega)).trans hOx)
            have hnO : Hid (v2.ownBlock ≠ some (w.heap.size + 2) ∧ ∀ j, v2.ownBlock = some j → W1.heap.size ≤ j) := Lib.hid ⟨fun e => by have := (HB2.out.own.lt _ e).1; omega, fun j e => (HB2.out.own.lt _ e).1⟩
            have HA : Hid (Apart rpSection (fun b => b < W1.heap.size) (wx.alloc (Obj.cells #[.string s.name, .slice A5 s.code.length c5, .slice A6 s.mends.length c6] 58)) v2 s [.string s.name, .slice A5 s.code.length c5, .slice A6 s.mends.length c6]) := Lib.hid (by
              refine Apart.of_only (base := wr.heap.size + 1) (rpSection_mk (SLbyte_own (ownsRow_only (ho5.alloc _)) (by rw [only_size]; omega)) (SLMend_own (ownsRow_only (ho6.alloc _)) (by rw [only_size]; omega))) (fun j hj => by omega) (fun j hj => ?_)
              have := (HB2.out.own.lt _ hj).2
              omega)
            have hgr2 : Hid (W1.grownBy (wx.alloc (Obj.cells #[.string s.name, .slice A5 s.code.length c5, .slice A6 s.mends.length c6] 58)) (some (w.heap.size + 2))) := Lib.hid (grown_row Hgr.out (grown_of_below (hbx.alloc (by omega) _) none) (fun j e => by cases e))
            have hsz : (wx.alloc (Obj.cells #[.string s.name, .slice A5 s.code.length c5, .slice A6 s.mends.length c6] 58)).heap.size = wx.heap.size + 1 := by simp
            have Hsz := Lib.hid hsz
            have Hlk := Lib.hid hlk
            have hzx2 : W1.heap.size ≤ wx.heap.size := by omega
            clear hlk hsz hV5 hOx hbx d0 d1 y0 y1 ho5 ho6
            go_wp2_with (at_builtin; refine wpList_append_lies _ rfl _ _ 38 rfl W1.heap.size 58 iS _ 3 64 Tryz.underlying38 hiS zS0 zS1 zS2 rfl (by decide) v2 k css2.flatten rfl HW.out ⟨wx.heap.size, 0, none⟩ 1 1 [.string s.name, .slice A5 s.code.length c5, .slice A6 s.mends.length c6] rfl rfl ?_ ?_ (by decide) ?_ ?_ ?_ _ rfl ?_)
            · exact World.news_of_block (cs := #[.string s.name, .slice A5 s.code.length c5, .slice A6 s.mends.length c6]) (t := 58) (fr := (0, 0)) (heap_alloc_new _ _)
            · simp [Value.oneCell']
            · unfold maxLen; omega
            · have := Hs.out.1; omega
            · rw [Hsz.out]; omega
            · intro gb cap w3 hown3 hgrow3 hat3 hlt3
              have hB3 := HB3.out.push hown3 (by rw [Hlk.out]) hgrow3 (by rw [Hsz.out]; exact hat3) HA.out
              have hO3 := block_grown hgrow3 hO2.out hnO.out.1
              obtain ⟨c0, c1, z0, z1⟩ := cells_of_block hO3
              have hgr3 := grown_row hgr2.out hgrow3 hnO.out.2
              have hO4 : Hid (∀ u, (w3.setCell ⟨w.heap.size + 2, 1, none⟩ u).heap[w.heap.size + 2]? = some (.cells #[v, u] 40 (0, 0))) := Lib.hid fun u => by rw [block_set hO3]; rfl
              have HB4 := Lib.hid hB3
              have Hgr3 := Lib.hid hgr3
              clear hB3 hO3 hgr3 hown3 hgrow3 hat3
              go_wp2
              go_roundg (o.sections.length - (k + 1))
              case measure => omega
              case rel =>
                refine ⟨k + 1, _, css2 ++ [[.string s.name, .slice A5 s.code.length c5, .slice A6 s.mends.length c6]], hlt2, rfl, by go_num, hO4.out _, ?_, grown_trans Hgr3.out (grown_setCell _ ⟨w.heap.size + 2, 1, none⟩ _)⟩
                rw [take_snoc E.out]
                exact HB4.out.setCell _ (by simp <;> omega) _
        · obtain rfl : k = o.sections.length := by omega
          rw [List.take_length] at HB2
          have hfin := HB.out.keep Hgr.out.size (fun j hj hne => Hgr.out.block j hj (by intro e; injection e with e; exact hne (by omega)))
          have Hfin := Lib.hid hfin
          have Hbw := Lib.hid hbw
          clear hfin hbw
          obtain ⟨A5, c5, rfl⟩ := own_slice HB.out.own
          obtain ⟨A6, c6, rfl⟩ := own_slice HB2.out.own
          have f0 : wr.frozen? ⟨w.heap.size + 1, 0, none⟩ = false := by rw [(grown_below Hgr.out (B := w.heap.size + 2) (by omega) (by omega)).frozen (by simp), Hb.out.frozen (by simp)]; simp
          have f1 : wr.frozen? ⟨w.heap.size + 1, 1, none⟩ = false := by rw [(grown_below Hgr.out (B := w.heap.size + 2) (by omega) (by omega)).frozen (by simp), Hb.out.frozen (by simp)]; simp
          have r0 : wr.cell? ⟨w.heap.size + 1, 0, none⟩ = some (.slice none 0 0) := by rw [(grown_below Hgr.out (B := w.heap.size + 2) (by omega) (by omega)).cell (by simp), Hb.out.cell (by simp)]; simp
          have r1 : wr.cell? ⟨w.heap.size + 1, 1, none⟩ = some (.slice none 0 0) := by rw [(grown_below Hgr.out (B := w.heap.size + 2) (by omega) (by omega)).cell (by simp), Hb.out.cell (by simp)]; simp
          have hbR : Below (w.heap.size + 2) ((w.alloc (Obj.cells #[.slice A1 o.globals.length n1, .slice A2 o.sections.length n2] 40)).alloc (Obj.cells #[.slice none 0 0, .slice none 0 0] 40)) wr := Hb.out.trans (grown_below Hgr.out (by omega) (by omega))
          have HbR := Lib.hid hbR
          have hRX : Hid (∀ x y, Below w.heap.size w ((wr.setCell ⟨w.heap.size + 1, 0, none⟩ x).setCell ⟨w.heap.size + 1, 1, none⟩ y)) := Lib.hid fun x y => (Hbw.out.setCell (p := ⟨w.heap.size + 1, 0, none⟩) (Nat.le_succ _) x).setCell (p := ⟨w.heap.size + 1, 1, none⟩) (Nat.le_succ _) y
          have hX1 : Hid (∀ x y, rpGlobal.SLF ((wr.setCell ⟨w.heap.size + 1, 0, none⟩ x).setCell ⟨w.heap.size + 1, 1, none⟩ y) w.heap.size ((wr.setCell ⟨w.heap.size + 1, 0, none⟩ x).setCell ⟨w.heap.size + 1, 1, none⟩ y).heap.size o.globals (.slice A5 o.globals.length c5)) := Lib.hid fun x y => ((Hfin.out.setCell ⟨w.heap.size + 1, 0, none⟩ (by simp <;> omega) x).setCell ⟨w.heap.size + 1, 1, none⟩ (by simp <;> omega) y).SLF (fun k hk => by omega) (by omega) (Nat.le_refl _)
          have hX2 : Hid (∀ x y, rpSection.SLF ((wr.setCell ⟨w.heap.size + 1, 0, none⟩ x).setCell ⟨w.heap.size + 1, 1, none⟩ y) w.heap.size ((wr.setCell ⟨w.heap.size + 1, 0, none⟩ x).setCell ⟨w.heap.size + 1, 1, none⟩ y).heap.size o.sections (.slice A6 o.sections.length c6)) := Lib.hid fun x y => ((HB2.out.setCell ⟨w.heap.size + 1, 0, none⟩ (by simp <;> omega) x).setCell ⟨w.heap.size + 1, 1, none⟩ (by simp <;> omega) y).SLF (fun k hk => by omega) (by omega) (Nat.le_refl _)
          clear hbR
          go_wp2
          refine bodyPost_ret (v := .agg #[.slice A5 o.globals.length c5, .slice A6 o.sections.length c6]) (res_Object (by rfl) (by rfl) (cells_set2 (a := (w.alloc (Obj.cells #[.slice A1 o.globals.length n1, .slice A2 o.sections.length n2] 40)).alloc (Obj.cells #[.slice none 0 0, .slice none 0 0] 40)) HbR.out (Nat.lt_succ_self _) (by simp; rfl) (by simp; rfl) _ _)) rfl ?_
          exact HR.out _ _ _ (hRX.out _ _) (hX1.out _ _) (hX2.out _ _)
end Go.Proofs.YtcakodemngchpaaGreatDoor
