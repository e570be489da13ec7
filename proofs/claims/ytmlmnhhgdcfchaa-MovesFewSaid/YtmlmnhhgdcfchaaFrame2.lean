/- The references of package frame; the comparison of two lists of instructions. -/
import Derived.Test.YtmlmnhhgdcfchaaLib
import Derived.Test.YtmlmnhhgdcfchaaRows
import Derived.IntWalk
import Derived.Test.YtmlmnhhgdcfchaaFrame
namespace Go.Proofs.Ytmlmnhhgdcfchaa
open Go.RowKit
set_option linter.unusedSimpArgs false
set_option linter.unusedVariables false

set_option maxHeartbeats 400000 in
theorem FrameEnter_calls (s : Int) (v : Value) (xs : List Int) (w : World) (h : rpInt.SL w w.heap.size xs v) (hs0 : 0 ≤ s) (hs1 : s ≤ 100) (hn : xs.length ≤ 8) (R : Ending → World → Prop) 
    (hR : ∀ w' v', Below w.heap.size w w' → w'.ownsRow w.heap.size 51 5 v' xs.length ((entered s xs).flatMap Mac.cells) → R (.returned v') w') :
    Calls Try.prog 12 #[.agg #[.int .i64 s, v]] w R := by
  obtain ⟨A, c, rfl, hm, _, h⟩ := h.cases_
  obtain ⟨i0, hi, hz0, hz1, hz2⟩ := info_parts info_Mac
  go_enter Try.func12, Try.ntmps12
  go_wp2
  go_loopw [3, 4] (fun u i wr => ∃ k : Nat, k ≤ xs.length ∧ i = .int .i64 k ∧ wr.ownsRow (w.heap.size + 1) 51 5 u k (((entered s xs).take k).flatMap Mac.cells) ∧ Below (w.heap.size + 1) (w.alloc (Obj.cells #[Value.int IntKind.i64 s, Value.slice A xs.length c] 24)) wr) (fun _ i _ => xs.length - (intOf i).toNat)
  case atStart => exact ⟨0, Nat.zero_le _, rfl, World.ownsRow_nil _ _ _ _, Below.refl _ _⟩
  case round =>
    obtain ⟨k, hk, rfl, hown, hbel⟩ := hrel
    have hw2 : w.heap.size + 1 ≤ wr.heap.size := by have := hbel.size; simpa using this
    have d0 : wr.cell? ⟨w.heap.size, 0, none⟩ = some (.int .i64 s) := by rw [hbel.cell (by simp)]; simp
    have d2 : wr.cell? ⟨w.heap.size, 1, none⟩ = some (.slice A xs.length c) := by rw [hbel.cell (by simp)]; simp
    by_cases hlt : k < xs.length
    · obtain ⟨b, off, rfl, hb, c0⟩ := h.int_at hlt
      have Hs := Lib.hid (entered_take (s := s) hlt)
      generalize hx : xs.getD k 0 = x at *
      clear hx h
      have d1 : wr.cell? ⟨b, off + k, none⟩ = some (.int .i64 x) := (hbel.cell (by show b < _; omega)).trans ((World.cell?_alloc_lt _ _ _ hb).trans c0)
      clear c0
      have i1 : (0 : Int) ≤ (k : Int) := Int.natCast_nonneg _
      have i2 : (k : Int) < (xs.length : Int) := by omega
      have i3 : IntKind.i64.wrap (s + (k : Int)) = s + (k : Int) := IntWalk.i64_in _ (by omega)
      have ow : ∀ g, u3.ownBlock = some g → w.heap.size + 1 ≤ g := fun g hg => (hown.lt g hg).1
      go_wp2_with fail
      go_region_held3 (fun w' => w'.cell? ⟨w.heap.size, 0, none⟩ = some (.int .i64 s) ∧ w'.cell? ⟨w.heap.size, 1, none⟩ = some (.slice (some ⟨b, off, none⟩) xs.length c) ∧ w'.cell? ⟨b, off + k, none⟩ = some (.int .i64 x)) (first | go_keep | (go_split_ands; refine ⟨?_, ?_, ?_⟩ <;> (rw [hgrow.cell_far _ (by simp; omega) (by intro e; have := ow _ e.symm; simp at this; omega)]; assumption))) ((refine step_append_lies _ (by rfl) _ _ _ (by rfl) (w.heap.size + 1) 51 i0 _ 5 40 Try.underlying25 hi hz0 hz1 hz2 rfl (by omega) _ _ _ (by rfl) ((hown.alloc _).drew) ⟨wr.heap.size, 0, none⟩ 1 1 [.int .i64 36, .int .i64 0, .int .i64 x, .int .i64 0, .int .i64 (s + k)] (by rfl) (by rfl) (World.news_of_block (cs := #[.int .i64 36, .int .i64 0, .int .i64 x, .int .i64 0, .int .i64 (s + k)]) (t := 51) (fr := (0, 0)) (heap_alloc_new wr _)) (by simp [Value.oneCell']) (by omega) (by unfold maxLen; omega) (by omega) (by simp; omega) (wr.heap.size + 1) (by simp) ?_; intro gg cap w1 hown1 hgrow hat hlt1))
      have hbel1 := ((hbel.alloc hw2 _).drew).grown hgrow (by simp; omega) ow
      clear hown hbel hgrow
      go_wp2
      go_roundw
      case rel =>
        refine ⟨k + 1, by omega, by go_num, ?_, hbel1⟩
        rw [Hs.out, List.flatMap_append]
        exact hown1
      case measure => simp [intOf]; omega
    · obtain rfl : k = xs.length := by omega
      rw [List.take_of_length_le (by rw [entered_length]; omega)] at hown
      go_wp2
      exact hR _ _ ((Below.refl _ _).alloc (Nat.le_refl _) _ |>.trans (hbel.mono (by omega))) (ownsRow_base hown (by omega))

def left (s : Int) (xs : List Int) : List Mac := xs.zipIdx.map fun p => ⟨35, p.1, 0, 0, s + (p.2 : Int)⟩
theorem left_length (s : Int) (xs : List Int) : (left s xs).length = xs.length := by simp [left]
theorem left_take {s : Int} {xs : List Int} {k : Nat} (h : k < xs.length) : (left s xs).take (k + 1) = (left s xs).take k ++ [⟨35, xs.getD k 0, 0, 0, s + (k : Int)⟩] := by
  rw [List.take_succ_eq_append_getElem (by rw [left_length]; exact h)]
  simp [left, List.getD_eq_getElem?_getD, h]
def macReturn : Mac := ⟨45, 0, 0, 0, 0⟩

set_option maxHeartbeats 400000 in
theorem FrameLeave_calls (s : Int) (v : Value) (xs : List Int) (w : World) (h : rpInt.SL w w.heap.size xs v) (hs0 : 0 ≤ s) (hs1 : s ≤ 100) (hn : xs.length ≤ 8) (R : Ending → World → Prop) 
    (hR : ∀ w' v', Below w.heap.size w w' → w'.ownsRow w.heap.size 51 5 v' (xs.length + 1) ((left s xs ++ [macReturn]).flatMap Mac.cells) → R (.returned v') w') :
    Calls Try.prog 14 #[.agg #[.int .i64 s, v]] w R := by
  obtain ⟨A, c, rfl, hm, _, h⟩ := h.cases_
  obtain ⟨i0, hi, hz0, hz1, hz2⟩ := info_parts info_Mac
  go_enter Try.func14, Try.ntmps14
  go_wp2
  go_loopw [3, 4] (fun u i wr => ∃ k : Nat, k ≤ xs.length ∧ i = .int .i64 k ∧ wr.ownsRow (w.heap.size + 1) 51 5 u k (((left s xs).take k).flatMap Mac.cells) ∧ Below (w.heap.size + 1) (w.alloc (Obj.cells #[Value.int IntKind.i64 s, Value.slice A xs.length c] 24)) wr) (fun _ i _ => xs.length - (intOf i).toNat)
  case atStart => exact ⟨0, Nat.zero_le _, rfl, World.ownsRow_nil _ _ _ _, Below.refl _ _⟩
  case round =>
    obtain ⟨k, hk, rfl, hown, hbel⟩ := hrel
    have hw2 : w.heap.size + 1 ≤ wr.heap.size := by have := hbel.size; simpa using this
    have d0 : wr.cell? ⟨w.heap.size, 0, none⟩ = some (.int .i64 s) := by rw [hbel.cell (by simp)]; simp
    have d2 : wr.cell? ⟨w.heap.size, 1, none⟩ = some (.slice A xs.length c) := by rw [hbel.cell (by simp)]; simp
    have ow : ∀ g, u3.ownBlock = some g → w.heap.size + 1 ≤ g := fun g hg => (hown.lt g hg).1
    by_cases hlt : k < xs.length
    · obtain ⟨b, off, rfl, hb, c0⟩ := h.int_at hlt
      have Hs := Lib.hid (left_take (s := s) hlt)
      generalize hx : xs.getD k 0 = x at *
      clear hx h
      have d1 : wr.cell? ⟨b, off + k, none⟩ = some (.int .i64 x) := (hbel.cell (by show b < _; omega)).trans ((World.cell?_alloc_lt _ _ _ hb).trans c0)
      clear c0
      have i1 : (0 : Int) ≤ (k : Int) := Int.natCast_nonneg _
      have i2 : (k : Int) < (xs.length : Int) := by omega
      have i3 : IntKind.i64.wrap (s + (k : Int)) = s + (k : Int) := IntWalk.i64_in _ (by omega)
      go_wp2_with fail
      go_region_held3 (fun w' => w'.cell? ⟨w.heap.size, 0, none⟩ = some (.int .i64 s) ∧ w'.cell? ⟨w.heap.size, 1, none⟩ = some (.slice (some ⟨b, off, none⟩) xs.length c) ∧ w'.cell? ⟨b, off + k, none⟩ = some (.int .i64 x)) (first | go_keep | (go_split_ands; refine ⟨?_, ?_, ?_⟩ <;> (rw [hgrow.cell_far _ (by simp; omega) (by intro e; have := ow _ e.symm; simp at this; omega)]; assumption))) ((refine step_append_lies _ (by rfl) _ _ _ (by rfl) (w.heap.size + 1) 51 i0 _ 5 40 Try.underlying25 hi hz0 hz1 hz2 rfl (by omega) _ _ _ (by rfl) ((hown.alloc _).drew) ⟨wr.heap.size, 0, none⟩ 1 1 [.int .i64 35, .int .i64 x, .int .i64 0, .int .i64 0, .int .i64 (s + k)] (by rfl) (by rfl) (World.news_of_block (cs := #[.int .i64 35, .int .i64 x, .int .i64 0, .int .i64 0, .int .i64 (s + k)]) (t := 51) (fr := (0, 0)) (heap_alloc_new wr _)) (by simp [Value.oneCell']) (by omega) (by unfold maxLen; omega) (by omega) (by simp; omega) (wr.heap.size + 1) (by simp) ?_; intro gg cap w1 hown1 hgrow hat hlt1))
      have hbel1 := ((hbel.alloc hw2 _).drew).grown hgrow (by simp; omega) ow
      clear hown hbel hgrow
      go_wp2
      go_roundw
      case rel =>
        refine ⟨k + 1, by omega, by go_num, ?_, hbel1⟩
        rw [Hs.out, List.flatMap_append]
        exact hown1
      case measure => simp [intOf]; omega
    · obtain rfl : k = xs.length := by omega
      rw [List.take_of_length_le (by rw [left_length]; omega)] at hown
      go_wp2_with (at_builtin; refine wpList_append_own _ rfl _ _ 25 rfl (w.heap.size + 1) 51 i0 _ 5 40 Try.underlying25 hi hz0 hz1 hz2 rfl (by decide) _ _ _ rfl (hown.alloc _) ⟨wr.heap.size, 0, none⟩ 1 1 [.int .i64 45, .int .i64 0, .int .i64 0, .int .i64 0, .int .i64 0] rfl rfl ?_ ?_ ?_ ?_ ?_ ?_)
      · exact World.news_of_block (cs := #[.int .i64 45, .int .i64 0, .int .i64 0, .int .i64 0, .int .i64 0]) (t := 51) (fr := (0, 0)) (heap_alloc_new wr _)
      · simp [Value.oneCell']
      · unfold maxLen; omega
      · omega
      · simp; omega
      · intro u' w1 hown1 hgrow _
        have hbel1 := (hbel.alloc hw2 _).grown hgrow (by simp; omega) ow
        clear hown hbel hgrow
        go_wp2
        refine hR _ _ ((Below.refl _ _).alloc (Nat.le_refl _) _ |>.trans (hbel1.mono (by omega))) (ownsRow_base (B := w.heap.size + 1) ?_ (by omega))
        rw [List.flatMap_append]
        exact hown1

set_option maxHeartbeats 400000 in
theorem Leaving_calls (s : Int) (v : Value) (xs : List Int) (w : World) (h : rpInt.SL w w.heap.size xs v) (hs0 : 0 ≤ s) (hs1 : s ≤ 100) (hn : xs.length ≤ 8) (R : Ending → World → Prop) 
    (hR : ∀ w' v', Below w.heap.size w w' → w'.ownsRow w.heap.size 51 5 v' (xs.length + 1) ((left s xs ++ [macReturn]).flatMap Mac.cells) → R (.returned v') w') :
    Calls Try.prog 25 #[.agg #[.int .i64 s, v]] w R := by
  obtain ⟨A, c, rfl, hm, _, h⟩ := h.cases_
  obtain ⟨i0, hi, hz0, hz1, hz2⟩ := info_parts info_Mac
  go_enter Try.func25, Try.ntmps25
  go_wp2
  go_loopw [3, 9] (fun u i wr => ∃ k : Nat, k ≤ xs.length ∧ i = .int .i64 k ∧ wr.ownsRow (w.heap.size + 1) 51 5 u k (((left s xs).take k).flatMap Mac.cells) ∧ Below (w.heap.size + 1) (w.alloc (Obj.cells #[Value.int IntKind.i64 s, Value.slice A xs.length c] 24)) wr) (fun _ i _ => xs.length - (intOf i).toNat)
  case atStart => exact ⟨0, Nat.zero_le _, rfl, World.ownsRow_nil _ _ _ _, Below.refl _ _⟩
  case round =>
    obtain ⟨k, hk, rfl, hown, hbel⟩ := hrel
    have hw2 : w.heap.size + 1 ≤ wr.heap.size := by have := hbel.size; simpa using this
    have d0 : wr.cell? ⟨w.heap.size, 0, none⟩ = some (.int .i64 s) := by rw [hbel.cell (by simp)]; simp
    have ow : ∀ g, u3.ownBlock = some g → w.heap.size + 1 ≤ g := fun g hg => (hown.lt g hg).1
    by_cases hlt : k < xs.length
    · obtain ⟨b, off, rfl, hb, c0⟩ := h.int_at hlt
      have Hs := Lib.hid (left_take (s := s) hlt)
      generalize hx : xs.getD k 0 = x at *
      clear hx h
      have d1 : wr.cell? ⟨b, off + k, none⟩ = some (.int .i64 x) := (hbel.cell (by show b < _; omega)).trans ((World.cell?_alloc_lt _ _ _ hb).trans c0)
      clear c0
      go_wp2_with (at_builtin; refine wpList_append_own _ rfl _ _ 25 rfl (w.heap.size + 1) 51 i0 _ 5 40 Try.underlying25 hi hz0 hz1 hz2 rfl (by decide) _ _ _ rfl (hown.alloc _) ⟨wr.heap.size, 0, none⟩ 1 1 [.int .i64 35, .int .i64 x, .int .i64 0, .int .i64 0, .int .i64 (s + k)] rfl rfl ?_ ?_ ?_ ?_ ?_ ?_)
      · exact World.news_of_block (cs := #[.int .i64 35, .int .i64 x, .int .i64 0, .int .i64 0, .int .i64 (s + k)]) (t := 51) (fr := (0, 0)) (heap_alloc_new wr _)
      · simp [Value.oneCell']
      · unfold maxLen; omega
      · omega
      · simp; omega
      · intro u' w1 hown1 hgrow _
        have hbel1 := (hbel.alloc hw2 _).grown hgrow (by simp; omega) ow
        clear hown hbel hgrow
        go_wp2
        go_roundw
        case rel =>
          refine ⟨k + 1, by omega, by go_num, ?_, hbel1⟩
          rw [Hs.out, List.flatMap_append]
          exact hown1
        case measure => simp [intOf]; omega
    · obtain rfl : k = xs.length := by omega
      rw [List.take_of_length_le (by rw [left_length]; omega)] at hown
      go_wp2_with (at_builtin; refine wpList_append_own _ rfl _ _ 25 rfl (w.heap.size + 1) 51 i0 _ 5 40 Try.underlying25 hi hz0 hz1 hz2 rfl (by decide) _ _ _ rfl (hown.alloc _) ⟨wr.heap.size, 0, none⟩ 1 1 [.int .i64 45, .int .i64 0, .int .i64 0, .int .i64 0, .int .i64 0] rfl rfl ?_ ?_ ?_ ?_ ?_ ?_)
      · exact World.news_of_block (cs := #[.int .i64 45, .int .i64 0, .int .i64 0, .int .i64 0, .int .i64 0]) (t := 51) (fr := (0, 0)) (heap_alloc_new wr _)
      · simp [Value.oneCell']
      · unfold maxLen; omega
      · omega
      · simp; omega
      · intro u' w1 hown1 hgrow _
        have hbel1 := (hbel.alloc hw2 _).grown hgrow (by simp; omega) ow
        clear hown hbel hgrow
        go_wp2
        refine hR _ _ ((Below.refl _ _).alloc (Nat.le_refl _) _ |>.trans (hbel1.mono (by omega))) (ownsRow_base (B := w.heap.size + 1) ?_ (by omega))
        rw [List.flatMap_append]
        exact hown1
end Go.Proofs.Ytmlmnhhgdcfchaa
