/- What the functions of package frame and their references come to. -/
import Derived.Test.YtmlmnhhgdcfchaaLib
import Derived.Test.YtmlmnhhgdcfchaaRows
import Derived.IntWalk
namespace Go.Proofs.Ytmlmnhhgdcfchaa
open Go.RowKit
set_option linter.unusedSimpArgs false
set_option linter.unusedVariables false


set_option maxHeartbeats 400000 in
theorem Within_calls (n lo hi : Int) (w : World) (R : Ending → World → Prop) (hR : R (.returned (.bool (decide (lo ≤ n ∧ n ≤ hi)))) w) :
    Calls Try.prog 29 #[.int .i64 n, .int .i64 lo, .int .i64 hi] w R := by
  by_cases h : lo ≤ n
  · rw [show decide (lo ≤ n ∧ n ≤ hi) = decide (n ≤ hi) from by simp [h]] at hR
    go_enter Try.func29, Try.ntmps29
    go_wp2
    exact hR
  · rw [show decide (lo ≤ n ∧ n ≤ hi) = false from by simp [h]] at hR
    go_enter Try.func29, Try.ntmps29
    go_wp2
    exact hR

set_option maxHeartbeats 400000 in
theorem Fault_calls (c a : Int) (w : World) (R : Ending → World → Prop) (hR : ∀ w', Below w.heap.size w w' → R (.returned (.agg #[.int .i64 c, .int .i64 a])) w') :
    Calls Try.prog 30 #[.int .i64 c, .int .i64 a] w R := by
  go_enter Try.func30, Try.ntmps30
  go_wp2
  refine bodyPost_ret (v := (.agg #[.int .i64 ((c, a)).1, .int .i64 ((c, a)).2])) (by simp [results, Try.results30, go_sem]) rfl ?_
  exact hR _ (by repeat (first | exact Below.refl _ _ | assumption | refine below_drewN ?_ _ | refine Below.drew ?_ | refine Below.setCell ?_ (by first | omega | (simp; done) | (simp; omega)) _ | refine Below.alloc ?_ (by first | omega | (simp; done) | (simp; omega)) _ | refine below_step (by assumption) ?_ (by first | omega | (simp; done) | (simp; omega))))

/-- What is wrong with the registers that are kept, from place k on. -/
def savesFault (xs : List Int) : Nat → Nat → Int × Int
 | 0, _ => (0, 0)
 | m + 1, i => if xs.getD i 0 < 6 ∨ 13 < xs.getD i 0 then (3, (i : Int)) else if 0 < i ∧ xs.getD i 0 ≤ xs.getD (i - 1) 0 then (5, (i : Int)) else savesFault xs m (i + 1)
def frameFault (s : Int) (xs : List Int) : Int × Int := if s < 0 ∨ 100 < s then (3, 0) else savesFault xs xs.length 0

theorem savesFault_step {xs : List Int} {k : Nat} (h : k < xs.length) : savesFault xs (xs.length - k) k = if xs.getD k 0 < 6 ∨ 13 < xs.getD k 0 then (3, (k : Int)) else if 0 < k ∧ xs.getD k 0 ≤ xs.getD (k - 1) 0 then (5, (k : Int)) else savesFault xs (xs.length - (k + 1)) (k + 1) := by
  rw [show xs.length - k = (xs.length - (k + 1)) + 1 from by omega, savesFault]
theorem savesFault_end (xs : List Int) : savesFault xs (xs.length - xs.length) xs.length = (0, 0) := by rw [Nat.sub_self, savesFault]

set_option maxHeartbeats 400000 in
theorem RefFault_calls (s : Int) (v : Value) (xs : List Int) (w : World) (h : rpInt.SL w w.heap.size xs v) (R : Ending → World → Prop) 
    (hR : ∀ w', Below w.heap.size w w' → R (.returned (.agg #[.int .i64 (frameFault s xs).1, .int .i64 (frameFault s xs).2])) w') :
    Calls Try.prog 10 #[.agg #[.int .i64 s, v]] w R := by
  by_cases h0 : s < 0
  · rw [show frameFault s xs = (3, 0) from by rw [frameFault, if_pos (.inl h0)]] at hR
    go_enter Try.func10, Try.ntmps10
    go_wp2
    refine bodyPost_ret (v := (.agg #[.int .i64 ((3, 0)).1, .int .i64 ((3, 0)).2])) (by simp [results, Try.results10, go_sem]) rfl ?_
    exact hR _ (by repeat (first | exact Below.refl _ _ | assumption | refine below_drewN ?_ _ | refine Below.drew ?_ | refine Below.setCell ?_ (by first | omega | (simp; done) | (simp; omega)) _ | refine Below.alloc ?_ (by first | omega | (simp; done) | (simp; omega)) _ | refine below_step (by assumption) ?_ (by first | omega | (simp; done) | (simp; omega))))
  by_cases h1 : 100 < s
  · rw [show frameFault s xs = (3, 0) from by rw [frameFault, if_pos (.inr h1)]] at hR
    go_enter Try.func10, Try.ntmps10
    go_wp2
    refine bodyPost_ret (v := (.agg #[.int .i64 ((3, 0)).1, .int .i64 ((3, 0)).2])) (by simp [results, Try.results10, go_sem]) rfl ?_
    exact hR _ (by repeat (first | exact Below.refl _ _ | assumption | refine below_drewN ?_ _ | refine Below.drew ?_ | refine Below.setCell ?_ (by first | omega | (simp; done) | (simp; omega)) _ | refine Below.alloc ?_ (by first | omega | (simp; done) | (simp; omega)) _ | refine below_step (by assumption) ?_ (by first | omega | (simp; done) | (simp; omega))))
  have h0' : 0 ≤ s := by omega
  have h1' : s ≤ 100 := by omega
  have he : frameFault s xs = savesFault xs xs.length 0 := by rw [frameFault, if_neg (by omega)]
  rw [he] at hR
  clear h0 h1 he
  obtain ⟨A, c, rfl, hm, _, h⟩ := h.cases_
  go_enter Try.func10, Try.ntmps10
  go_wp2
  go_loopw [3] (fun i wr => ∃ k : Nat, k ≤ xs.length ∧ i = .int .i64 k ∧ savesFault xs (xs.length - k) k = savesFault xs xs.length 0 ∧ ∃ n, wr = ((w.alloc (Obj.cells #[Value.int IntKind.i64 s, Value.slice A xs.length c] 24)).alloc (Obj.cells #[Value.int IntKind.i64 0, Value.int IntKind.i64 0] 27)).drewN n) (fun i _ => xs.length - (intOf i).toNat)
  case atStart => exact ⟨0, Nat.zero_le _, rfl, rfl, 0, rfl⟩
  case round =>
    obtain ⟨k, hk, rfl, ht, n, rfl⟩ := hrel
    have Ht := Lib.hid ht
    clear ht
    by_cases hlt : k < xs.length
    · obtain ⟨b, off, rfl, hb, c0⟩ := h.int_at hlt
      have Hs := Lib.hid (savesFault_step hlt)
      by_cases hk0 : 0 < k
      · obtain ⟨b', off', he, _, c1⟩ := h.int_at (k := k - 1) (by omega)
        injection he with he
        injection he with he1 he2
        subst he1 he2
        clear h
        have g1 : (0 : Int) < (k : Int) := by omega
        have b1 : (0 : Int) ≤ (k : Int) - 1 := by omega
        have b2 : (k : Int) - 1 < xs.length := by omega
        have b3 : ((k : Int) - 1).toNat = k - 1 := by omega
        have b4 : IntKind.i64.wrap ((k : Int) - 1) = (k : Int) - 1 := IntWalk.i64_in _ (by omega)
        generalize hx : xs.getD k 0 = x at *
        generalize hy : xs.getD (k-1) 0 = y at *
        clear hx hy
        go_wp2
        · refine bodyPost_ret (v := (.agg #[.int .i64 ((3, (k : Int))).1, .int .i64 ((3, (k : Int))).2])) (by simp [results, Try.results10, go_sem]) rfl ?_
          rw [← Ht.out, Hs.out, if_pos (.inl (by assumption))] at hR
          exact hR _ (by repeat (first | exact Below.refl _ _ | assumption | refine below_drewN ?_ _ | refine Below.drew ?_ | refine Below.setCell ?_ (by first | omega | (simp; done) | (simp; omega)) _ | refine Below.alloc ?_ (by first | omega | (simp; done) | (simp; omega)) _ | refine below_step (by assumption) ?_ (by first | omega | (simp; done) | (simp; omega))))
        · refine bodyPost_ret (v := (.agg #[.int .i64 ((3, (k : Int))).1, .int .i64 ((3, (k : Int))).2])) (by simp [results, Try.results10, go_sem]) rfl ?_
          rw [← Ht.out, Hs.out, if_pos (.inr (by assumption))] at hR
          exact hR _ (by repeat (first | exact Below.refl _ _ | assumption | refine below_drewN ?_ _ | refine Below.drew ?_ | refine Below.setCell ?_ (by first | omega | (simp; done) | (simp; omega)) _ | refine Below.alloc ?_ (by first | omega | (simp; done) | (simp; omega)) _ | refine below_step (by assumption) ?_ (by first | omega | (simp; done) | (simp; omega))))
        · go_quiet (fail)
          go_wp2
          · refine bodyPost_ret (v := (.agg #[.int .i64 ((5, (k : Int))).1, .int .i64 ((5, (k : Int))).2])) (by simp [results, Try.results10, go_sem]) rfl ?_
            rw [← Ht.out, Hs.out, if_neg (by omega), if_pos ⟨hk0, by assumption⟩] at hR
            exact hR _ (by repeat (first | exact Below.refl _ _ | assumption | refine below_drewN ?_ _ | refine Below.drew ?_ | refine Below.setCell ?_ (by first | omega | (simp; done) | (simp; omega)) _ | refine Below.alloc ?_ (by first | omega | (simp; done) | (simp; omega)) _ | refine below_step (by assumption) ?_ (by first | omega | (simp; done) | (simp; omega))))
          · go_roundw
            case rel => 
              refine ⟨k + 1, by omega, by go_num, ?_, _, rfl⟩
              rw [← Ht.out, Hs.out, if_neg (by omega), if_neg (by omega)]
            case measure => simp [intOf]; omega
      · have g1 : (k : Int) ≤ 0 := by omega
        have g2 : decide ((0 : Int) < (k : Int)) = false := by simp; omega
        clear h
        generalize hx : xs.getD k 0 = x at *
        clear hx
        go_wp2
        · refine bodyPost_ret (v := (.agg #[.int .i64 ((3, (k : Int))).1, .int .i64 ((3, (k : Int))).2])) (by simp [results, Try.results10, go_sem]) rfl ?_
          rw [← Ht.out, Hs.out, if_pos (.inl (by assumption))] at hR
          exact hR _ (by repeat (first | exact Below.refl _ _ | assumption | refine below_drewN ?_ _ | refine Below.drew ?_ | refine Below.setCell ?_ (by first | omega | (simp; done) | (simp; omega)) _ | refine Below.alloc ?_ (by first | omega | (simp; done) | (simp; omega)) _ | refine below_step (by assumption) ?_ (by first | omega | (simp; done) | (simp; omega))))
        · refine bodyPost_ret (v := (.agg #[.int .i64 ((3, (k : Int))).1, .int .i64 ((3, (k : Int))).2])) (by simp [results, Try.results10, go_sem]) rfl ?_
          rw [← Ht.out, Hs.out, if_pos (.inr (by assumption))] at hR
          exact hR _ (by repeat (first | exact Below.refl _ _ | assumption | refine below_drewN ?_ _ | refine Below.drew ?_ | refine Below.setCell ?_ (by first | omega | (simp; done) | (simp; omega)) _ | refine Below.alloc ?_ (by first | omega | (simp; done) | (simp; omega)) _ | refine below_step (by assumption) ?_ (by first | omega | (simp; done) | (simp; omega))))
        · go_quiet (fail)
          go_wp2
          go_roundw
          case rel => 
            refine ⟨k + 1, by omega, by go_num, ?_, _, rfl⟩
            rw [← Ht.out, Hs.out, if_neg (by omega), if_neg (by omega)]
          case measure => simp [intOf]; omega
    · obtain rfl : k = xs.length := by omega
      rw [savesFault_end] at Ht
      go_wp2
      refine bodyPost_ret (v := (.agg #[.int .i64 ((0, 0)).1, .int .i64 ((0, 0)).2])) (by simp [results, Try.results10, go_sem]) rfl ?_
      rw [← Ht.out] at hR
      exact hR _ (by repeat (first | exact Below.refl _ _ | assumption | refine below_drewN ?_ _ | refine Below.drew ?_ | refine Below.setCell ?_ (by first | omega | (simp; done) | (simp; omega)) _ | refine Below.alloc ?_ (by first | omega | (simp; done) | (simp; omega)) _ | refine below_step (by assumption) ?_ (by first | omega | (simp; done) | (simp; omega))))

set_option maxHeartbeats 400000 in
theorem fault_calls (s : Int) (v : Value) (xs : List Int) (w : World) (h : rpInt.SL w w.heap.size xs v) (R : Ending → World → Prop) 
    (hR : ∀ w', Below w.heap.size w w' → R (.returned (.agg #[.int .i64 (frameFault s xs).1, .int .i64 (frameFault s xs).2])) w') :
    Calls Try.prog 23 #[.agg #[.int .i64 s, v]] w R := by
  by_cases h0 : 0 ≤ s ∧ s ≤ 100
  · have he : frameFault s xs = savesFault xs xs.length 0 := by rw [frameFault, if_neg (by omega)]
    have hs : decide (0 ≤ s ∧ s ≤ 100) = true := by simp [h0]
    rw [he] at hR
    clear h0 he
    obtain ⟨A, c, rfl, hm, _, h⟩ := h.cases_
    go_enter Try.func23, Try.ntmps23
    go_wp2_with (go_at_call 29; refine Within_calls _ _ _ _ _ ?_)
    go_loop [13] (fun i => ∃ k : Nat, k ≤ xs.length ∧ i = .int .i64 k ∧ savesFault xs (xs.length - k) k = savesFault xs xs.length 0) (fun i => xs.length - (intOf i).toNat)
    case atStart => exact ⟨0, Nat.zero_le _, rfl, rfl⟩
    case round =>
      obtain ⟨k, hk, rfl, ht⟩ := hrel
      have Ht := Lib.hid ht
      clear ht
      by_cases hlt : k < xs.length
      · obtain ⟨b, off, rfl, hb, c0⟩ := h.int_at hlt
        have Hs := Lib.hid (savesFault_step hlt)
        by_cases hw : 6 ≤ xs.getD k 0 ∧ xs.getD k 0 ≤ 13
        · have hw' : decide (6 ≤ xs.getD k 0 ∧ xs.getD k 0 ≤ 13) = true := by simp only [decide_eq_true_eq]; exact hw
          by_cases hk0 : 0 < k
          · obtain ⟨b', off', he, _, c1⟩ := h.int_at (k := k - 1) (by omega)
            injection he with he
            injection he with he1 he2
            subst he1 he2
            clear h
            have g1 : (0 : Int) < (k : Int) := by omega
            have b1 : (0 : Int) ≤ (k : Int) - 1 := by omega
            have b2 : (k : Int) - 1 < xs.length := by omega
            have b3 : ((k : Int) - 1).toNat = k - 1 := by omega
            have b4 : IntKind.i64.wrap ((k : Int) - 1) = (k : Int) - 1 := IntWalk.i64_in _ (by omega)
            generalize hx : xs.getD k 0 = x at *
            generalize hy : xs.getD (k-1) 0 = y at *
            clear hx hy
            go_wp2_with (first | (go_at_call 29; refine Within_calls _ _ _ _ _ ?_) | (go_at_call 30; refine Fault_calls _ _ _ _ ?_; intro w1 hb1; obtain ⟨hc1, hf1⟩ := bcell hb1))
            · refine bodyPost_ret (v := (.agg #[.int .i64 ((5, (k : Int))).1, .int .i64 ((5, (k : Int))).2])) (by simp [results, Try.results23, go_sem, hc1]) rfl ?_
              rw [← Ht.out, Hs.out, if_neg (by omega), if_pos ⟨hk0, by assumption⟩] at hR
              exact hR _ (by repeat (first | exact Below.refl _ _ | assumption | refine below_drewN ?_ _ | refine Below.drew ?_ | refine Below.setCell ?_ (by first | omega | (simp; done) | (simp; omega)) _ | refine Below.alloc ?_ (by first | omega | (simp; done) | (simp; omega)) _ | refine below_step (by assumption) ?_ (by first | omega | (simp; done) | (simp; omega))))
            · go_roundw
              case rel => 
                refine ⟨k + 1, by omega, by go_num, ?_⟩
                rw [← Ht.out, Hs.out, if_neg (by omega), if_neg (by omega)]
              case measure => simp [intOf]; omega
          · have g1 : (k : Int) ≤ 0 := by omega
            clear h
            generalize hx : xs.getD k 0 = x at *
            clear hx
            go_wp2_with (first | (go_at_call 29; refine Within_calls _ _ _ _ _ ?_) | (go_at_call 30; refine Fault_calls _ _ _ _ ?_; intro w1 hb1; obtain ⟨hc1, hf1⟩ := bcell hb1))
            go_roundw
            case rel => 
              refine ⟨k + 1, by omega, by go_num, ?_⟩
              rw [← Ht.out, Hs.out, if_neg (by omega), if_neg (by omega)]
            case measure => simp [intOf]; omega
        · have hw' : decide (6 ≤ xs.getD k 0 ∧ xs.getD k 0 ≤ 13) = false := by simp only [decide_eq_false_iff_not]; exact hw
          clear h
          generalize hx : xs.getD k 0 = x at *
          clear hx
          go_wp2_with (first | (go_at_call 29; refine Within_calls _ _ _ _ _ ?_) | (go_at_call 30; refine Fault_calls _ _ _ _ ?_; intro w1 hb1; obtain ⟨hc1, hf1⟩ := bcell hb1))
          refine bodyPost_ret (v := (.agg #[.int .i64 ((3, (k : Int))).1, .int .i64 ((3, (k : Int))).2])) (by simp [results, Try.results23, go_sem, hc1]) rfl ?_
          rw [← Ht.out, Hs.out, if_pos (by omega)] at hR
          exact hR _ (by repeat (first | exact Below.refl _ _ | assumption | refine below_drewN ?_ _ | refine Below.drew ?_ | refine Below.setCell ?_ (by first | omega | (simp; done) | (simp; omega)) _ | refine Below.alloc ?_ (by first | omega | (simp; done) | (simp; omega)) _ | refine below_step (by assumption) ?_ (by first | omega | (simp; done) | (simp; omega))))
      · obtain rfl : k = xs.length := by omega
        rw [savesFault_end] at Ht
        go_wp2
        refine bodyPost_ret (v := (.agg #[.int .i64 ((0, 0)).1, .int .i64 ((0, 0)).2])) (by simp [results, Try.results23, go_sem]) rfl ?_
        rw [← Ht.out] at hR
        exact hR _ (by repeat (first | exact Below.refl _ _ | assumption | refine below_drewN ?_ _ | refine Below.drew ?_ | refine Below.setCell ?_ (by first | omega | (simp; done) | (simp; omega)) _ | refine Below.alloc ?_ (by first | omega | (simp; done) | (simp; omega)) _ | refine below_step (by assumption) ?_ (by first | omega | (simp; done) | (simp; omega))))
  · have he : frameFault s xs = (3, 0) := by rw [frameFault, if_pos (by omega)]
    have hs : decide (0 ≤ s ∧ s ≤ 100) = false := by simp only [decide_eq_false_iff_not]; exact h0
    rw [he] at hR
    clear h0 he
    go_enter Try.func23, Try.ntmps23
    go_wp2_with (first | (go_at_call 29; refine Within_calls _ _ _ _ _ ?_) | (go_at_call 30; refine Fault_calls _ _ _ _ ?_; intro w1 hb1; obtain ⟨hc1, hf1⟩ := bcell hb1))
    refine bodyPost_ret (v := (.agg #[.int .i64 ((3, 0)).1, .int .i64 ((3, 0)).2])) (by simp [results, Try.results23, go_sem, hc1]) rfl ?_
    exact hR _ (by repeat (first | exact Below.refl _ _ | assumption | refine below_drewN ?_ _ | refine Below.drew ?_ | refine Below.setCell ?_ (by first | omega | (simp; done) | (simp; omega)) _ | refine Below.alloc ?_ (by first | omega | (simp; done) | (simp; omega)) _ | refine below_step (by assumption) ?_ (by first | omega | (simp; done) | (simp; omega))))

theorem info_Mac : (Try.prog.info? 51).map (fun i => (i.zero, i.size, i.bytes)) = some (some (.agg #[.int .i64 0, .int .i64 0, .int .i64 0, .int .i64 0, .int .i64 0]), 5, 40) := by kernel_rfl

structure Mac where
  op : Int
  dst : Int
  a : Int
  b : Int
  n : Int
def Mac.tup (m : Mac) : Int × Int × Int × Int × Int := (m.op, m.dst, m.a, m.b, m.n)
theorem Mac.tup_inj {m n : Mac} (h : m.tup = n.tup) : m = n := by
  cases m
  cases n
  simpa [Mac.tup] using h
instance : DecidableEq Mac := fun m n => if h : m.tup = n.tup then isTrue (Mac.tup_inj h) else isFalse (fun e => h (by rw [e]))
def Mac.cells (m : Mac) : List Value := [.int .i64 m.op, .int .i64 m.dst, .int .i64 m.a, .int .i64 m.b, .int .i64 m.n]
def rpMac : Rp Mac := (rpInt.pair (rpInt.pair (rpInt.pair (rpInt.pair rpInt)))).as_ Mac.tup
theorem rpMac_rep {w : World} {B : Nat} {m : Mac} {cs : List Value} : rpMac.rep w B m cs ↔ cs = m.cells := by
  simp [rpMac, Rp.as_, Rp.pair, rpInt, Mac.tup, Mac.cells]
theorem rpMac_size : rpMac.size = 5 := rfl
theorem SLMac_own {w : World} {B base : Nat} {e : TypeId} {v : Value} {xs : List Mac} (h : w.ownsRow base e 5 v xs.length (xs.flatMap Mac.cells)) (hB : w.heap.size ≤ B) : rpMac.SL w B xs v :=
  Rp.SL.of_own (r := rpMac) (fun _ _ _ => rpMac_rep.2 rfl) (fun _ => rfl) h hB

def entered (s : Int) (xs : List Int) : List Mac := xs.zipIdx.map fun p => ⟨36, 0, p.1, 0, s + (p.2 : Int)⟩
theorem entered_length (s : Int) (xs : List Int) : (entered s xs).length = xs.length := by simp [entered]
theorem entered_take {s : Int} {xs : List Int} {k : Nat} (h : k < xs.length) : (entered s xs).take (k + 1) = (entered s xs).take k ++ [⟨36, 0, xs.getD k 0, 0, s + (k : Int)⟩] := by
  rw [List.take_succ_eq_append_getElem (by rw [entered_length]; exact h)]
  simp [entered, List.getD_eq_getElem?_getD, h]

set_option maxHeartbeats 400000 in
theorem Entering_calls (s : Int) (v : Value) (xs : List Int) (w : World) (h : rpInt.SL w w.heap.size xs v) (hs0 : 0 ≤ s) (hs1 : s ≤ 100) (hn : xs.length ≤ 8) (R : Ending → World → Prop) 
    (hR : ∀ w' v', Below w.heap.size w w' → w'.ownsRow w.heap.size 51 5 v' xs.length ((entered s xs).flatMap Mac.cells) → R (.returned v') w') :
    Calls Try.prog 24 #[.agg #[.int .i64 s, v]] w R := by
  obtain ⟨A, c, rfl, hm, _, h⟩ := h.cases_
  obtain ⟨i0, hi, hz0, hz1, hz2⟩ := info_parts info_Mac
  go_enter Try.func24, Try.ntmps24
  go_wp2
  go_loopw [3, 9] (fun u i wr => ∃ k : Nat, k ≤ xs.length ∧ i = .int .i64 k ∧ wr.ownsRow (w.heap.size + 1) 51 5 u k (((entered s xs).take k).flatMap Mac.cells) ∧ Below (w.heap.size + 1) (w.alloc (Obj.cells #[Value.int IntKind.i64 s, Value.slice A xs.length c] 24)) wr) (fun _ i _ => xs.length - (intOf i).toNat)
  case atStart => exact ⟨0, Nat.zero_le _, rfl, World.ownsRow_nil _ _ _ _, Below.refl _ _⟩
  case round =>
    obtain ⟨k, hk, rfl, hown, hbel⟩ := hrel
    by_cases hlt : k < xs.length
    · obtain ⟨b, off, rfl, hb, c0⟩ := h.int_at hlt
      have hw2 : w.heap.size + 1 ≤ wr.heap.size := by have := hbel.size; simpa using this
      have d0 : wr.cell? ⟨w.heap.size, 0, none⟩ = some (.int .i64 s) := by rw [hbel.cell (by simp)]; simp
      have Hs := Lib.hid (entered_take (s := s) hlt)
      generalize hx : xs.getD k 0 = x at *
      clear hx h
      have d1 : wr.cell? ⟨b, off + k, none⟩ = some (.int .i64 x) := (hbel.cell (by show b < _; omega)).trans ((World.cell?_alloc_lt _ _ _ hb).trans c0)
      clear c0
      go_wp2_with (at_builtin; refine wpList_append_own _ rfl _ _ 25 rfl (w.heap.size + 1) 51 i0 _ 5 40 Try.underlying25 hi hz0 hz1 hz2 rfl (by decide) _ _ _ rfl (hown.alloc _) ⟨wr.heap.size, 0, none⟩ 1 1 [.int .i64 36, .int .i64 0, .int .i64 x, .int .i64 0, .int .i64 (s + k)] rfl rfl ?c1 ?c2 ?c3 ?c4 ?c5 ?_)
      · exact World.news_of_block (cs := #[.int .i64 36, .int .i64 0, .int .i64 x, .int .i64 0, .int .i64 (s + k)]) (t := 51) (fr := (0, 0)) (heap_alloc_new wr _)
      · simp [Value.oneCell']
      · unfold maxLen; omega
      · omega
      · simp; omega
      · intro u' w1 hown1 hgrow _
        have hbel1 := (hbel.alloc hw2 _).grown hgrow (by simp; omega) (fun g hg => (hown.lt g hg).1)
        clear hown hbel hgrow
        go_wp2
        go_roundw
        case rel =>
          refine ⟨k + 1, by omega, by go_num, ?_, hbel1⟩
          rw [Hs.out, List.flatMap_append]
          exact hown1
        case measure => simp [intOf]; omega
    · obtain rfl : k = xs.length := by omega
      rw [List.take_of_length_le (by rw [entered_length]; omega)] at hown
      go_wp2
      exact hR _ _ ((Below.refl _ _).alloc (Nat.le_refl _) _ |>.trans (hbel.mono (by omega))) (ownsRow_base hown (by omega))
end Go.Proofs.Ytmlmnhhgdcfchaa
