/- slices.Clone, at three types. -/
import Derived.Test.YtkodcoianakjoaaDoorLib
import Derived.Test.YtkodcoianakjoaaDoorRows
import Derived.IntWalk
import Derived.Test.YtkodcoianakjoaaDoorLib5
import Derived.Test.YtkodcoianakjoaaDoorObjPlain
namespace Go.Proofs.YtkodcoianakjoaaDoor
open Go.RowKit
set_option linter.unusedSimpArgs false
set_option linter.unusedVariables false

def intCells (n : Int) : List Value := [.int .i64 n]
def byteCells (n : UInt8) : List Value := [.int .u8 n.toNat]
def Mend.cells (m : Mend) : List Value := [.int .i64 m.at_, .string m.name]
theorem info_int3 : (Tryd.prog.info? 3).map (fun i => (i.zero, i.size, i.bytes)) = some (some (.int .i64 0), 1, 8) := by kernel_rfl
theorem info_byte : (Tryd.prog.info? 5).map (fun i => (i.zero, i.size, i.bytes)) = some (some (.int .u8 0), 1, 1) := by kernel_rfl
theorem info_Mend : (Tryd.prog.info? 55).map (fun i => (i.zero, i.size, i.bytes)) = some (some (.agg #[.int .i64 0, .string ByteArray.empty]), 2, 24) := by kernel_rfl
theorem one_int (xs : List Int) : ∀ u ∈ xs.flatMap intCells, u.oneCell' = true := by
  intro u hu
  obtain ⟨m, _, hm⟩ := List.mem_flatMap.1 hu
  simp [intCells] at hm
  subst hm
  rfl
theorem one_byte (xs : List UInt8) : ∀ u ∈ xs.flatMap byteCells, u.oneCell' = true := by
  intro u hu
  obtain ⟨m, _, hm⟩ := List.mem_flatMap.1 hu
  simp [byteCells] at hm
  subst hm
  rfl
theorem one_Mend (xs : List Mend) : ∀ u ∈ xs.flatMap Mend.cells, u.oneCell' = true := by
  intro u hu
  obtain ⟨m, _, hm⟩ := List.mem_flatMap.1 hu
  simp [Mend.cells] at hm
  rcases hm with rfl | rfl <;> rfl
theorem SLint_own {w : World} {B base : Nat} {e : TypeId} {v : Value} {xs : List Int} (h : w.ownsRow base e 1 v xs.length (xs.flatMap intCells)) (hB : w.heap.size ≤ B) : rpInt.SL w B xs v :=
  Rp.SL.of_own (r := rpInt) (fun _ _ _ => rfl) (fun _ => rfl) h hB
theorem SLbyte_own {w : World} {B base : Nat} {e : TypeId} {v : Value} {xs : List UInt8} (h : w.ownsRow base e 1 v xs.length (xs.flatMap byteCells)) (hB : w.heap.size ≤ B) : rpByte.SL w B xs v :=
  Rp.SL.of_own (r := rpByte) (fun _ _ _ => rfl) (fun _ => rfl) h hB
theorem SLMend_own {w : World} {B base : Nat} {e : TypeId} {v : Value} {xs : List Mend} (h : w.ownsRow base e 2 v xs.length (xs.flatMap Mend.cells)) (hB : w.heap.size ≤ B) : rpMend.SL w B xs v :=
  Rp.SL.of_own (r := rpMend) (fun _ _ _ => rpMend_rep.2 rfl) (fun _ => rfl) h hB

set_option maxHeartbeats 400000 in
theorem Cloneint_calls (v : Value) (xs : List Int) (w : World) (h : rpInt.SL w w.heap.size xs v) (hn : xs.length ≤ 4294967296) (R : Ending → World → Prop)
    (hR : ∀ w' v', Below w.heap.size w w' → w'.ownsRow w.heap.size 3 1 v' xs.length (xs.flatMap intCells) → R (.returned v') w') :
    Calls Tryd.prog 49 #[v] w R := by
  obtain ⟨A, c, rfl, hm, hcap, h⟩ := h.cases_
  obtain ⟨i0, hi, hz0, hz1, hz2⟩ := info_parts info_int3
  have hnil := fun w => Lib.run_eql_slice_nil (P := Tryd.prog) w 68 3 A xs.length c 0 0 Tryd.underlying68
  cases A with
  | none =>
    have hx : xs = [] := by
      rcases Nat.eq_zero_or_pos xs.length with h0 | hp
      · exact List.eq_nil_of_length_eq_zero h0
      · obtain ⟨b, off, _, hA, _⟩ := h.at_ (List.getElem?_eq_getElem hp)
        cases hA
    subst hx
    clear hnil
    have hnil := fun w => Lib.run_eql_slice_nil (P := Tryd.prog) w 68 3 none 0 c 0 0 Tryd.underlying68
    go_enter Tryd.func49, Tryd.ntmps49
    go_wp2
    exact hR _ _ (Below.refl _ _) (World.ownsRow_nil _ _ _ _)
  | some a =>
    have hnews : ∀ j u, (xs.flatMap intCells)[j]? = some u → w.cell? (a.add j) = some u := h.news (fun _ _ _ _ h => h) (fun _ => rfl) (by decide)
    have hlt : ∀ j u, (xs.flatMap intCells)[j]? = some u → a.block < w.heap.size := fun j u hj => by
      have := World.block_lt_of_cell? w _ (hnews j u hj)
      rwa [addr_block] at this
    have Hn := Lib.hid hnews
    have Hl := Lib.hid hlt
    clear hnews hlt h
    go_enter Tryd.func49, Tryd.ntmps49
    go_wp2_with (at_builtin; refine wpList_append_own _ rfl _ _ 68 rfl w.heap.size 3 i0 _ 1 8 Tryd.underlying68 hi hz0 hz1 hz2 rfl (by decide) (.slice (some ⟨w.heap.size, 0, none⟩) 0 0) 0 [] rfl ?_ a xs.length c (xs.flatMap intCells) rfl (flat_length intCells 1 (fun _ => rfl) xs) ?_ ?_ ?_ ?_ ?_ ?_)
    · exact ⟨rfl, .inr ⟨w.heap.size, 0, #[], rfl, Nat.le_refl _, heap_alloc_new w _, Nat.le_refl _, Nat.zero_le _, rfl, rfl⟩⟩
    · intro j u hj
      have hb := Hl.out j u hj
      rw [World.cell?_alloc_lt _ _ _ (by rw [addr_block]; exact hb)]
      exact Hn.out j u hj
    · exact one_int xs
    · unfold maxLen; omega
    · omega
    · simp
    · intro v' w1 hown hgrow _
      go_wp2
      refine hR _ _ ((Below.refl _ _).alloc (Nat.le_refl _) _ |>.grown hgrow (by simp) (fun k hk => by simp [Value.ownBlock] at hk; omega)) ?_
      simpa using hown
set_option maxHeartbeats 400000 in
theorem Clonebyte_calls (v : Value) (xs : List UInt8) (w : World) (h : rpByte.SL w w.heap.size xs v) (hn : xs.length ≤ 4294967296) (R : Ending → World → Prop)
    (hR : ∀ w' v', Below w.heap.size w w' → w'.ownsRow w.heap.size 5 1 v' xs.length (xs.flatMap byteCells) → R (.returned v') w') :
    Calls Tryd.prog 50 #[v] w R := by
  obtain ⟨A, c, rfl, hm, hcap, h⟩ := h.cases_
  obtain ⟨i0, hi, hz0, hz1, hz2⟩ := info_parts info_byte
  have hnil := fun w => Lib.run_eql_slice_nil (P := Tryd.prog) w 32 5 A xs.length c 0 0 Tryd.underlying32
  cases A with
  | none =>
    have hx : xs = [] := by
      rcases Nat.eq_zero_or_pos xs.length with h0 | hp
      · exact List.eq_nil_of_length_eq_zero h0
      · obtain ⟨b, off, _, hA, _⟩ := h.at_ (List.getElem?_eq_getElem hp)
        cases hA
    subst hx
    clear hnil
    have hnil := fun w => Lib.run_eql_slice_nil (P := Tryd.prog) w 32 5 none 0 c 0 0 Tryd.underlying32
    go_enter Tryd.func50, Tryd.ntmps50
    go_wp2
    exact hR _ _ (Below.refl _ _) (World.ownsRow_nil _ _ _ _)
  | some a =>
    have hnews : ∀ j u, (xs.flatMap byteCells)[j]? = some u → w.cell? (a.add j) = some u := h.news (fun _ _ _ _ h => h) (fun _ => rfl) (by decide)
    have hlt : ∀ j u, (xs.flatMap byteCells)[j]? = some u → a.block < w.heap.size := fun j u hj => by
      have := World.block_lt_of_cell? w _ (hnews j u hj)
      rwa [addr_block] at this
    have Hn := Lib.hid hnews
    have Hl := Lib.hid hlt
    clear hnews hlt h
    go_enter Tryd.func50, Tryd.ntmps50
    go_wp2_with (at_builtin; refine wpList_append_own _ rfl _ _ 32 rfl w.heap.size 5 i0 _ 1 1 Tryd.underlying32 hi hz0 hz1 hz2 rfl (by decide) (.slice (some ⟨w.heap.size, 0, none⟩) 0 0) 0 [] rfl ?_ a xs.length c (xs.flatMap byteCells) rfl (flat_length byteCells 1 (fun _ => rfl) xs) ?_ ?_ ?_ ?_ ?_ ?_)
    · exact ⟨rfl, .inr ⟨w.heap.size, 0, #[], rfl, Nat.le_refl _, heap_alloc_new w _, Nat.le_refl _, Nat.zero_le _, rfl, rfl⟩⟩
    · intro j u hj
      have hb := Hl.out j u hj
      rw [World.cell?_alloc_lt _ _ _ (by rw [addr_block]; exact hb)]
      exact Hn.out j u hj
    · exact one_byte xs
    · unfold maxLen; omega
    · omega
    · simp
    · intro v' w1 hown hgrow _
      go_wp2
      refine hR _ _ ((Below.refl _ _).alloc (Nat.le_refl _) _ |>.grown hgrow (by simp) (fun k hk => by simp [Value.ownBlock] at hk; omega)) ?_
      simpa using hown
set_option maxHeartbeats 400000 in
theorem CloneMend_calls (v : Value) (xs : List Mend) (w : World) (h : rpMend.SL w w.heap.size xs v) (hn : xs.length ≤ 4294967296) (R : Ending → World → Prop)
    (hR : ∀ w' v', Below w.heap.size w w' → w'.ownsRow w.heap.size 55 2 v' xs.length (xs.flatMap Mend.cells) → R (.returned v') w') :
    Calls Tryd.prog 51 #[v] w R := by
  obtain ⟨A, c, rfl, hm, hcap, h⟩ := h.cases_
  obtain ⟨i0, hi, hz0, hz1, hz2⟩ := info_parts info_Mend
  have hnil := fun w => Lib.run_eql_slice_nil (P := Tryd.prog) w 51 55 A xs.length c 0 0 Tryd.underlying51
  cases A with
  | none =>
    have hx : xs = [] := by
      rcases Nat.eq_zero_or_pos xs.length with h0 | hp
      · exact List.eq_nil_of_length_eq_zero h0
      · obtain ⟨b, off, _, hA, _⟩ := h.at_ (List.getElem?_eq_getElem hp)
        cases hA
    subst hx
    clear hnil
    have hnil := fun w => Lib.run_eql_slice_nil (P := Tryd.prog) w 51 55 none 0 c 0 0 Tryd.underlying51
    go_enter Tryd.func51, Tryd.ntmps51
    go_wp2
    exact hR _ _ (Below.refl _ _) (World.ownsRow_nil _ _ _ _)
  | some a =>
    have hnews : ∀ j u, (xs.flatMap Mend.cells)[j]? = some u → w.cell? (a.add j) = some u := h.news (fun _ _ _ _ h => rpMend_rep.1 h) (fun _ => rfl) (by decide)
    have hlt : ∀ j u, (xs.flatMap Mend.cells)[j]? = some u → a.block < w.heap.size := fun j u hj => by
      have := World.block_lt_of_cell? w _ (hnews j u hj)
      rwa [addr_block] at this
    have Hn := Lib.hid hnews
    have Hl := Lib.hid hlt
    clear hnews hlt h
    go_enter Tryd.func51, Tryd.ntmps51
    go_wp2_with (at_builtin; refine wpList_append_own _ rfl _ _ 51 rfl w.heap.size 55 i0 _ 2 24 Tryd.underlying51 hi hz0 hz1 hz2 rfl (by decide) (.slice (some ⟨w.heap.size, 0, none⟩) 0 0) 0 [] rfl ?_ a xs.length c (xs.flatMap Mend.cells) rfl (flat_length Mend.cells 2 (fun _ => rfl) xs) ?_ ?_ ?_ ?_ ?_ ?_)
    · exact ⟨rfl, .inr ⟨w.heap.size, 0, #[], rfl, Nat.le_refl _, heap_alloc_new w _, Nat.le_refl _, Nat.zero_le _, rfl, rfl⟩⟩
    · intro j u hj
      have hb := Hl.out j u hj
      rw [World.cell?_alloc_lt _ _ _ (by rw [addr_block]; exact hb)]
      exact Hn.out j u hj
    · exact one_Mend xs
    · unfold maxLen; omega
    · omega
    · simp
    · intro v' w1 hown hgrow _
      go_wp2
      refine hR _ _ ((Below.refl _ _).alloc (Nat.le_refl _) _ |>.grown hgrow (by simp) (fun k hk => by simp [Value.ownBlock] at hk; omega)) ?_
      simpa using hown
end Go.Proofs.YtkodcoianakjoaaDoor
