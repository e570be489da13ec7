/- Package frame: Enter and Leave. (printed by genfk1.py) -/
import Derived.Test.YtemakpjickbmnaaDoorBase
import Derived.Test.YtemakpjickbmnaaDoorRows
import Derived.IntWalk
import Derived.Outline
import Derived.Test.YtemakpjickbmnaaDoorPlainA
import Derived.Test.YtemakpjickbmnaaDoorReadC
import Derived.Test.YtemakpjickbmnaaDoorCopyA
namespace Go.Proofs.YtemakpjickbmnaaDoor
open Go.RowKit
set_option linter.unusedSimpArgs false
set_option linter.unusedVariables false

/-- What is wrong with the registers that are kept, from place k on. -/
def savesFault (xs : List Int) : Nat → Nat → Int × Int
 | 0, _ => (0, 0)
 | m + 1, i => if xs.getD i 0 < 6 ∨ 13 < xs.getD i 0 then (3, (i : Int)) else if 0 < i ∧ xs.getD i 0 ≤ xs.getD (i - 1) 0 then (5, (i : Int)) else savesFault xs m (i + 1)
def frameFault (s : Int) (xs : List Int) : Int × Int := if s < 0 ∨ 100 < s then (3, 0) else savesFault xs xs.length 0
theorem savesFault_step {xs : List Int} {k : Nat} (h : k < xs.length) : savesFault xs (xs.length - k) k = if xs.getD k 0 < 6 ∨ 13 < xs.getD k 0 then (3, (k : Int)) else if 0 < k ∧ xs.getD k 0 ≤ xs.getD (k - 1) 0 then (5, (k : Int)) else savesFault xs (xs.length - (k + 1)) (k + 1) := by
  rw [show xs.length - k = (xs.length - (k + 1)) + 1 from by omega, savesFault]
theorem savesFault_end (xs : List Int) : savesFault xs (xs.length - xs.length) xs.length = (0, 0) := by rw [Nat.sub_self, savesFault]
set_option maxHeartbeats 400000 in
theorem fault_calls (s : Int) (v : Value) (xs : List Int) (w : World) (h : rpInt.SL w w.heap.size xs v) (R : Ending → World → Prop) 
    (hR : ∀ w', Below w.heap.size w w' → R (.returned (.agg #[.int .i64 (frameFault s xs).1, .int .i64 (frameFault s xs).2])) w') :
    Calls Tryd.prog 53 #[.agg #[.int .i64 s, v]] w R := by
  by_cases h0 : 0 ≤ s ∧ s ≤ 100
  · have he : frameFault s xs = savesFault xs xs.length 0 := by rw [frameFault, if_neg (by omega)]
    have hs : decide (0 ≤ s ∧ s ≤ 100) = true := by simp [h0]
    rw [he] at hR
    clear h0 he
    obtain ⟨A, c, rfl, hm, _, h⟩ := h.cases_
    go_enter Tryd.func53, Tryd.ntmps53
    go_wp2_with (go_at_call 88; refine Within_calls _ _ _ _ _ ?_)
    go_loop [13] (fun i => ∃ k : Nat, k ≤ xs.length ∧ i = .int .i64 k ∧ savesFault xs (xs.length - k) k = savesFault xs xs.length 0) (fun i => xs.length - (intOf i).toNat)
    case atStart => exact ⟨0, Nat.zero_le _, rfl, rfl⟩
    case round =>
      obtain ⟨k, hk, rfl, ht⟩ := hrel
      have Ht := Lib.hid ht
      clear ht
      by_cases hlt : k < xs.length
      · obtain ⟨b, off, rfl, hb, c0⟩ := h.int_at hlt
        have Hs := Lib.hid (savesFault_step hlt)
        by_cases hw : 6 ≤ xs.getD k 0 ∧ xs.getD k 0 ≤ 13
        · have hw' : decide (6 ≤ xs.getD k 0 ∧ xs.getD k 0 ≤ 13) = true := by simp only [decide_eq_true_eq]; exact hw
          by_cases hk0 : 0 < k
          · obtain ⟨b', off', he, _, c1⟩ := h.int_at (k := k - 1) (by omega)
            injection he with he
            injection he with he1 he2
            subst he1 he2
            clear h
            have g1 : (0 : Int) < (k : Int) := by omega
            have b1 : (0 : Int) ≤ (k : Int) - 1 := by omega
            have b2 : (k : Int) - 1 < xs.length := by omega
            have b3 : ((k : Int) - 1).toNat = k - 1 := by omega
            have b4 : IntKind.i64.wrap ((k : Int) - 1) = (k : Int) - 1 := IntWalk.i64_in _ (by omega)
            generalize hx : xs.getD k 0 = x at *
            generalize hy : xs.getD (k-1) 0 = y at *
            clear hx hy
            go_wp2_with (first | (go_at_call 88; refine Within_calls _ _ _ _ _ ?_) | (go_at_call 49; refine Fault_calls _ _ _ _ ?_; intro w1 hb1; obtain ⟨hc1, hf1⟩ := bcell hb1))
            · refine bodyPost_ret (v := (.agg #[.int .i64 ((5, (k : Int))).1, .int .i64 ((5, (k : Int))).2])) (by first | (simp [results, Tryd.results53, go_sem, hc1]; done) | (simp only [results, Tryd.results53]; go_simp)) rfl ?_
              rw [← Ht.out, Hs.out, if_neg (by omega), if_pos ⟨hk0, by assumption⟩] at hR
              exact hR _ bl0
            · go_roundw
              case rel => 
                refine ⟨k + 1, by omega, by go_num, ?_⟩
                rw [← Ht.out, Hs.out, if_neg (by omega), if_neg (by omega)]
              case measure => simp [intOf]; omega
          · have g1 : (k : Int) ≤ 0 := by omega
            clear h
            generalize hx : xs.getD k 0 = x at *
            clear hx
            go_wp2_with (first | (go_at_call 88; refine Within_calls _ _ _ _ _ ?_) | (go_at_call 49; refine Fault_calls _ _ _ _ ?_; intro w1 hb1; obtain ⟨hc1, hf1⟩ := bcell hb1))
            go_roundw
            case rel => 
              refine ⟨k + 1, by omega, by go_num, ?_⟩
              rw [← Ht.out, Hs.out, if_neg (by omega), if_neg (by omega)]
            case measure => simp [intOf]; omega
        · have hw' : decide (6 ≤ xs.getD k 0 ∧ xs.getD k 0 ≤ 13) = false := by simp only [decide_eq_false_iff_not]; exact hw
          clear h
          generalize hx : xs.getD k 0 = x at *
          clear hx
          go_wp2_with (first | (go_at_call 88; refine Within_calls _ _ _ _ _ ?_) | (go_at_call 49; refine Fault_calls _ _ _ _ ?_; intro w1 hb1; obtain ⟨hc1, hf1⟩ := bcell hb1))
          refine bodyPost_ret (v := (.agg #[.int .i64 ((3, (k : Int))).1, .int .i64 ((3, (k : Int))).2])) (by first | (simp [results, Tryd.results53, go_sem, hc1]; done) | (simp only [results, Tryd.results53]; go_simp)) rfl ?_
          rw [← Ht.out, Hs.out, if_pos (by omega)] at hR
          exact hR _ bl0
      · obtain rfl : k = xs.length := by omega
        rw [savesFault_end] at Ht
        go_wp2
        refine bodyPost_ret (v := (.agg #[.int .i64 ((0, 0)).1, .int .i64 ((0, 0)).2])) (by simp [results, Tryd.results53, go_sem]) rfl ?_
        rw [← Ht.out] at hR
        exact hR _ bl0
  · have he : frameFault s xs = (3, 0) := by rw [frameFault, if_pos (by omega)]
    have hs : decide (0 ≤ s ∧ s ≤ 100) = false := by simp only [decide_eq_false_iff_not]; exact h0
    rw [he] at hR
    clear h0 he
    go_enter Tryd.func53, Tryd.ntmps53
    go_wp2_with (first | (go_at_call 88; refine Within_calls _ _ _ _ _ ?_) | (go_at_call 49; refine Fault_calls _ _ _ _ ?_; intro w1 hb1; obtain ⟨hc1, hf1⟩ := bcell hb1))
    refine bodyPost_ret (v := (.agg #[.int .i64 ((3, 0)).1, .int .i64 ((3, 0)).2])) (by first | (simp [results, Tryd.results53, go_sem, hc1]; done) | (simp only [results, Tryd.results53]; go_simp)) rfl ?_
    exact hR _ bl0
def entered (s : Int) (xs : List Int) : List Mac := xs.zipIdx.map fun p => ⟨36, 0, p.1, 0, s + (p.2 : Int)⟩
theorem entered_length (s : Int) (xs : List Int) : (entered s xs).length = xs.length := by simp [entered]
theorem entered_take {s : Int} {xs : List Int} {k : Nat} (h : k < xs.length) : (entered s xs).take (k + 1) = (entered s xs).take k ++ [⟨36, 0, xs.getD k 0, 0, s + (k : Int)⟩] := by
  rw [List.take_succ_eq_append_getElem (by rw [entered_length]; exact h)]
  simp [entered, List.getD_eq_getElem?_getD, h]
set_option maxHeartbeats 400000 in
theorem Entering_calls (s : Int) (v : Value) (xs : List Int) (w : World) (h : rpInt.SL w w.heap.size xs v) (hs0 : 0 ≤ s) (hs1 : s ≤ 100) (hn : xs.length ≤ 8) (R : Ending → World → Prop) 
    (hR : ∀ w' v', Below w.heap.size w w' → w'.ownsRow w.heap.size 36 5 v' xs.length ((entered s xs).flatMap Mac.cells) → R (.returned v') w') :
    Calls Tryd.prog 54 #[.agg #[.int .i64 s, v]] w R := by
  obtain ⟨A, c, rfl, hm, _, h⟩ := h.cases_
  obtain ⟨i0, hi, hz0, hz1, hz2⟩ := info_parts info_Mac
  go_enter Tryd.func54, Tryd.ntmps54
  go_wp2
  go_loopw [3, 9] (fun u i wr => ∃ k : Nat, k ≤ xs.length ∧ i = .int .i64 k ∧ wr.ownsRow (w.heap.size + 1) 36 5 u k (((entered s xs).take k).flatMap Mac.cells) ∧ Below (w.heap.size + 1) (w.alloc (Obj.cells #[Value.int IntKind.i64 s, Value.slice A xs.length c] 80)) wr) (fun _ i _ => xs.length - (intOf i).toNat)
  case atStart => exact ⟨0, Nat.zero_le _, rfl, World.ownsRow_nil _ _ _ _, Below.refl _ _⟩
  case round =>
    obtain ⟨k, hk, rfl, hown, hbel⟩ := hrel
    by_cases hlt : k < xs.length
    · obtain ⟨b, off, rfl, hb, c0⟩ := h.int_at hlt
      have hw2 : w.heap.size + 1 ≤ wr.heap.size := by have := hbel.size; simpa using this
      have d0 : wr.cell? ⟨w.heap.size, 0, none⟩ = some (.int .i64 s) := by rw [hbel.cell (by simp)]; simp
      have Hs := Lib.hid (entered_take (s := s) hlt)
      generalize hx : xs.getD k 0 = x at *
      clear hx h
      have d1 : wr.cell? ⟨b, off + k, none⟩ = some (.int .i64 x) := (hbel.cell (by show b < _; omega)).trans ((World.cell?_alloc_lt _ _ _ hb).trans c0)
      clear c0
      go_wp2_with (at_builtin; refine wpList_append_own _ rfl _ _ 23 rfl (w.heap.size + 1) 36 i0 _ 5 40 Tryd.underlying23 hi hz0 hz1 hz2 rfl (by decide) _ _ _ rfl (hown.alloc _) ⟨wr.heap.size, 0, none⟩ 1 1 [.int .i64 36, .int .i64 0, .int .i64 x, .int .i64 0, .int .i64 (s + k)] rfl rfl ?_ ?_ ?_ ?_ ?_ ?_)
      · exact World.news_of_block (cs := #[.int .i64 36, .int .i64 0, .int .i64 x, .int .i64 0, .int .i64 (s + k)]) (t := 36) (fr := (0, 0)) (heap_alloc_new wr _)
      · simp [Value.oneCell']
      · unfold maxLen; omega
      · omega
      · simp; omega
      · intro u' w1 hown1 hgrow _
        have hbel1 := (hbel.alloc hw2 _).grown hgrow (by simp; omega) (fun g hg => (hown.lt g hg).1)
        clear hown hbel hgrow
        go_wp2
        go_roundw
        case rel =>
          refine ⟨k + 1, by omega, by go_num, ?_, hbel1⟩
          rw [Hs.out, List.flatMap_append]
          exact hown1
        case measure => simp [intOf]; omega
    · obtain rfl : k = xs.length := by omega
      rw [List.take_of_length_le (by rw [entered_length]; omega)] at hown
      go_wp2
      exact hR _ _ ((Below.refl _ _).alloc (Nat.le_refl _) _ |>.trans (hbel.mono (by omega))) (ownsRow_base hown (by omega))
def left (s : Int) (xs : List Int) : List Mac := xs.zipIdx.map fun p => ⟨35, p.1, 0, 0, s + (p.2 : Int)⟩
theorem left_length (s : Int) (xs : List Int) : (left s xs).length = xs.length := by simp [left]
theorem left_take {s : Int} {xs : List Int} {k : Nat} (h : k < xs.length) : (left s xs).take (k + 1) = (left s xs).take k ++ [⟨35, xs.getD k 0, 0, 0, s + (k : Int)⟩] := by
  rw [List.take_succ_eq_append_getElem (by rw [left_length]; exact h)]
  simp [left, List.getD_eq_getElem?_getD, h]
def macReturn : Mac := ⟨45, 0, 0, 0, 0⟩
set_option maxHeartbeats 400000 in
theorem Leaving_calls (s : Int) (v : Value) (xs : List Int) (w : World) (h : rpInt.SL w w.heap.size xs v) (hs0 : 0 ≤ s) (hs1 : s ≤ 100) (hn : xs.length ≤ 8) (R : Ending → World → Prop) 
    (hR : ∀ w' v', Below w.heap.size w w' → w'.ownsRow w.heap.size 36 5 v' (xs.length + 1) ((left s xs ++ [macReturn]).flatMap Mac.cells) → R (.returned v') w') :
    Calls Tryd.prog 55 #[.agg #[.int .i64 s, v]] w R := by
  obtain ⟨A, c, rfl, hm, _, h⟩ := h.cases_
  obtain ⟨i0, hi, hz0, hz1, hz2⟩ := info_parts info_Mac
  go_enter Tryd.func55, Tryd.ntmps55
  go_wp2
  go_loopw [3, 9] (fun u i wr => ∃ k : Nat, k ≤ xs.length ∧ i = .int .i64 k ∧ wr.ownsRow (w.heap.size + 1) 36 5 u k (((left s xs).take k).flatMap Mac.cells) ∧ Below (w.heap.size + 1) (w.alloc (Obj.cells #[Value.int IntKind.i64 s, Value.slice A xs.length c] 80)) wr) (fun _ i _ => xs.length - (intOf i).toNat)
  case atStart => exact ⟨0, Nat.zero_le _, rfl, World.ownsRow_nil _ _ _ _, Below.refl _ _⟩
  case round =>
    obtain ⟨k, hk, rfl, hown, hbel⟩ := hrel
    have hw2 : w.heap.size + 1 ≤ wr.heap.size := by have := hbel.size; simpa using this
    have d0 : wr.cell? ⟨w.heap.size, 0, none⟩ = some (.int .i64 s) := by rw [hbel.cell (by simp)]; simp
    have ow : ∀ g, u3.ownBlock = some g → w.heap.size + 1 ≤ g := fun g hg => (hown.lt g hg).1
    by_cases hlt : k < xs.length
    · obtain ⟨b, off, rfl, hb, c0⟩ := h.int_at hlt
      have Hs := Lib.hid (left_take (s := s) hlt)
      generalize hx : xs.getD k 0 = x at *
      clear hx h
      have d1 : wr.cell? ⟨b, off + k, none⟩ = some (.int .i64 x) := (hbel.cell (by show b < _; omega)).trans ((World.cell?_alloc_lt _ _ _ hb).trans c0)
      clear c0
      go_wp2_with (at_builtin; refine wpList_append_own _ rfl _ _ 23 rfl (w.heap.size + 1) 36 i0 _ 5 40 Tryd.underlying23 hi hz0 hz1 hz2 rfl (by decide) _ _ _ rfl (hown.alloc _) ⟨wr.heap.size, 0, none⟩ 1 1 [.int .i64 35, .int .i64 x, .int .i64 0, .int .i64 0, .int .i64 (s + k)] rfl rfl ?_ ?_ ?_ ?_ ?_ ?_)
      · exact World.news_of_block (cs := #[.int .i64 35, .int .i64 x, .int .i64 0, .int .i64 0, .int .i64 (s + k)]) (t := 36) (fr := (0, 0)) (heap_alloc_new wr _)
      · simp [Value.oneCell']
      · unfold maxLen; omega
      · omega
      · simp; omega
      · intro u' w1 hown1 hgrow _
        have hbel1 := (hbel.alloc hw2 _).grown hgrow (by simp; omega) ow
        clear hown hbel hgrow
        go_wp2
        go_roundw
        case rel =>
          refine ⟨k + 1, by omega, by go_num, ?_, hbel1⟩
          rw [Hs.out, List.flatMap_append]
          exact hown1
        case measure => simp [intOf]; omega
    · obtain rfl : k = xs.length := by omega
      rw [List.take_of_length_le (by rw [left_length]; omega)] at hown
      go_wp2_with (at_builtin; refine wpList_append_own _ rfl _ _ 23 rfl (w.heap.size + 1) 36 i0 _ 5 40 Tryd.underlying23 hi hz0 hz1 hz2 rfl (by decide) _ _ _ rfl (hown.alloc _) ⟨wr.heap.size, 0, none⟩ 1 1 [.int .i64 45, .int .i64 0, .int .i64 0, .int .i64 0, .int .i64 0] rfl rfl ?_ ?_ ?_ ?_ ?_ ?_)
      · exact World.news_of_block (cs := #[.int .i64 45, .int .i64 0, .int .i64 0, .int .i64 0, .int .i64 0]) (t := 36) (fr := (0, 0)) (heap_alloc_new wr _)
      · simp [Value.oneCell']
      · unfold maxLen; omega
      · omega
      · simp; omega
      · intro u' w1 hown1 hgrow _
        have hbel1 := (hbel.alloc hw2 _).grown hgrow (by simp; omega) ow
        clear hown hbel hgrow
        go_wp2
        refine hR _ _ ((Below.refl _ _).alloc (Nat.le_refl _) _ |>.trans (hbel1.mono (by omega))) (ownsRow_base (B := w.heap.size + 1) ?_ (by omega))
        rw [List.flatMap_append]
        exact hown1
/-- Registers that rise from 6 to 13 are eight at most. -/
theorem saves_rise {xs : List Int} : ∀ (m i : Nat), savesFault xs m i = (0, 0) → i + m = xs.length → (∀ j, j < i → 6 + (j : Int) ≤ xs.getD j 0 ∧ xs.getD j 0 ≤ 13) → ∀ j, j < xs.length → 6 + (j : Int) ≤ xs.getD j 0 ∧ xs.getD j 0 ≤ 13
  | 0, i, _, hi, h, j, hj => h j (by omega)
  | m + 1, i, h0, hi, h, j, hj => by
    rw [savesFault] at h0
    split at h0
    · simp at h0
    · rename_i h1
      split at h0
      · simp at h0
      · rename_i h2
        refine saves_rise m (i + 1) h0 (by omega) (fun j hj => ?_) j hj
        rcases Nat.lt_or_ge j i with hlt | hge
        · exact h j hlt
        · obtain rfl : j = i := by omega
          rcases Nat.eq_zero_or_pos j with rfl | hp
          · constructor <;> omega
          · have := h (j - 1) (by omega)
            constructor <;> omega
theorem frameFault_ok {s : Int} {xs : List Int} (h : (frameFault s xs).1 = 0) : frameFault s xs = (0, 0) ∧ 0 ≤ s ∧ s ≤ 100 ∧ xs.length ≤ 8 := by
  have hs : ∀ m i, (savesFault xs m i).1 = 0 → savesFault xs m i = (0, 0) := by
    intro m
    induction m with
    | zero => intro i _; rfl
    | succ m ih =>
      intro i h
      rw [savesFault] at h ⊢
      split
      · rename_i h1; rw [if_pos h1] at h; simp at h
      · rename_i h1
        rw [if_neg h1] at h
        split
        · rename_i h2; rw [if_pos h2] at h; simp at h
        · rename_i h2; rw [if_neg h2] at h; exact ih _ h
  unfold frameFault at h ⊢
  split
  · rename_i h1; rw [if_pos h1] at h; simp at h
  · rename_i h1
    rw [if_neg h1] at h
    have h2 := hs _ _ h
    refine ⟨h2, by omega, by omega, ?_⟩
    rcases Nat.lt_or_ge 8 xs.length with hlt | hge
    · have := saves_rise xs.length 0 h2 (by omega) (fun j hj => absurd hj (by omega)) 8 hlt
      omega
    · exact hge
set_option maxHeartbeats 400000 in
theorem Enter_good (s : Int) (v : Value) (xs : List Int) (w : World) (h : rpInt.SL w w.heap.size xs v) (h1 : frameFault s xs = (0, 0)) (hs0 : 0 ≤ s) (hs1 : s ≤ 100) (hn : xs.length ≤ 8) (R : Ending → World → Prop)
    (hR : ∀ w' v', Below w.heap.size w w' → w'.ownsRow w.heap.size 36 5 v' xs.length ((entered s xs).flatMap Mac.cells) → R (.returned (.tuple #[v', (.agg #[.int .i64 ((0, 0)).1, .int .i64 ((0, 0)).2])])) w') :
    Calls Tryd.prog 32 #[.agg #[.int .i64 s, v]] w R := by
  have hc := fault_calls s v xs
  rw [h1] at hc
  have Hc := Lib.hid hc
  have hms : Tryd.prog.eqGuardType Tryd.prog.depth 25 = false := by kernel_rfl
  have hne := neq_Fault 0 0 0 0
  rw [decide_eq_true ⟨rfl, rfl⟩] at hne
  clear hc h1
  go_enter Tryd.func32, Tryd.ntmps32
  go_wp2_with fail
  refine Hc.out _ (h.up bl0 (by first | omega | (simp; done) | (simp; omega))) _ ?_
  intro w1 hb1
  obtain ⟨hc1, hf1⟩ := bcell hb1
  have hz0 : w.heap.size < w1.heap.size := by have := hb1.size; simp at this; omega
  have hz1 : w.heap.size + 1 < w1.heap.size := by have := hb1.size; simp at this; omega
  go_wp2_with fail
  refine Entering_calls _ _ _ _ (h.up bl0 (by first | omega | (simp; done) | (simp; omega))) hs0 hs1 hn _ ?_
  intro w2 v2 hb2 ho2
  obtain ⟨hc2, hf2⟩ := bcell hb2
  have hy : w1.heap.size < w2.heap.size := by have := hb2.size; simp at this; omega
  have hy0 : w.heap.size < w2.heap.size := by omega
  have hy1 : w.heap.size + 1 < w2.heap.size := by omega
  go_wp2
  refine bodyPost_ret (v := .tuple #[v2, (.agg #[.int .i64 ((0, 0)).1, .int .i64 ((0, 0)).2])]) (by simp [results, Tryd.results32, go_sem, hc2, hc1, hz0, hz1, hy, hy0, hy1]) rfl ?_
  exact hR _ _ bl0 (ownsRow_base (ownsRow_setCell_below (ownsRow_setCell_below ho2 (by first | omega | (simp; done) | (simp; omega)) _) (by first | omega | (simp; done) | (simp; omega)) _) (by first | omega | (simp; done) | (simp; omega)))
set_option maxHeartbeats 400000 in
theorem Leave_good (s : Int) (v : Value) (xs : List Int) (w : World) (h : rpInt.SL w w.heap.size xs v) (h1 : frameFault s xs = (0, 0)) (hs0 : 0 ≤ s) (hs1 : s ≤ 100) (hn : xs.length ≤ 8) (R : Ending → World → Prop)
    (hR : ∀ w' v', Below w.heap.size w w' → w'.ownsRow w.heap.size 36 5 v' (xs.length + 1) ((left s xs ++ [macReturn]).flatMap Mac.cells) → R (.returned (.tuple #[v', (.agg #[.int .i64 ((0, 0)).1, .int .i64 ((0, 0)).2])])) w') :
    Calls Tryd.prog 33 #[.agg #[.int .i64 s, v]] w R := by
  have hc := fault_calls s v xs
  rw [h1] at hc
  have Hc := Lib.hid hc
  have hms : Tryd.prog.eqGuardType Tryd.prog.depth 25 = false := by kernel_rfl
  have hne := neq_Fault 0 0 0 0
  rw [decide_eq_true ⟨rfl, rfl⟩] at hne
  clear hc h1
  go_enter Tryd.func33, Tryd.ntmps33
  go_wp2_with fail
  refine Hc.out _ (h.up bl0 (by first | omega | (simp; done) | (simp; omega))) _ ?_
  intro w1 hb1
  obtain ⟨hc1, hf1⟩ := bcell hb1
  have hz0 : w.heap.size < w1.heap.size := by have := hb1.size; simp at this; omega
  have hz1 : w.heap.size + 1 < w1.heap.size := by have := hb1.size; simp at this; omega
  go_wp2_with fail
  refine Leaving_calls _ _ _ _ (h.up bl0 (by first | omega | (simp; done) | (simp; omega))) hs0 hs1 hn _ ?_
  intro w2 v2 hb2 ho2
  obtain ⟨hc2, hf2⟩ := bcell hb2
  have hy : w1.heap.size < w2.heap.size := by have := hb2.size; simp at this; omega
  have hy0 : w.heap.size < w2.heap.size := by omega
  have hy1 : w.heap.size + 1 < w2.heap.size := by omega
  go_wp2
  refine bodyPost_ret (v := .tuple #[v2, (.agg #[.int .i64 ((0, 0)).1, .int .i64 ((0, 0)).2])]) (by simp [results, Tryd.results33, go_sem, hc2, hc1, hz0, hz1, hy, hy0, hy1]) rfl ?_
  exact hR _ _ bl0 (ownsRow_base (ownsRow_setCell_below (ownsRow_setCell_below ho2 (by first | omega | (simp; done) | (simp; omega)) _) (by first | omega | (simp; done) | (simp; omega)) _) (by first | omega | (simp; done) | (simp; omega)))
end Go.Proofs.YtemakpjickbmnaaDoor
