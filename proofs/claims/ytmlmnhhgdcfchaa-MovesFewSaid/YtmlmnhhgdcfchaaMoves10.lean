/- The law: a row does what is done at one time. -/
import Derived.Test.YtmlmnhhgdcfchaaLib
import Derived.Test.YtmlmnhhgdcfchaaRows
import Derived.IntWalk
import Derived.Deep.LoopGhost
import Derived.Test.YtmlmnhhgdcfchaaMovesPlain2
namespace Go.Proofs.Ytmlmnhhgdcfchaa
open Go.RowKit
set_option linter.unusedSimpArgs false
set_option linter.unusedVariables false

theorem Rp.SL.of_ints {w : World} {B base : Nat} {e : TypeId} {v : Value} {xs : List Int} (h : w.ownsRow base e 1 v xs.length (xs.map (Value.int .i64))) (hB : w.heap.size ≤ B) : rpInt.SL w B xs v :=
  Rp.SL.of_own (r := rpInt) (f := fun n => [.int .i64 n]) (fun _ _ _ => rfl) (fun _ => rfl) (by
    rw [← List.map_eq_flatMap]
    exact h) hB

set_option maxRecDepth 100000 in
set_option maxHeartbeats 1000000 in
theorem MovesDone_calls (v : Value) (raw : List Int) (w : World) (h : rpInt.SL w w.heap.size raw v) (hok : ∀ x ∈ raw, I64 x) (R : Ending → World → Prop)
    (hR : ∀ w', Below w.heap.size w w' → R (.returned (.bool true)) w') :
    Calls Try.prog 6 #[v] w R := by
  have HR := Lib.hid hR
  have Hok := Lib.hid hok
  clear hR hok
  go_enter Try.func6, Try.ntmps6
  go_wp2_with fail
  refine movesOf_calls _ raw _ h Hok.out _ ?_
  intro w1 v1 hb1 ho1
  have ht := ten_movesOf raw
  have hlen := ten_length ht
  generalize movesOf raw = l at *
  have Hten := Lib.hid ht
  have hs1 : rpMove.SL w1 w1.heap.size l v1 := SLMove_own ho1 (Nat.le_refl _)
  have hz1 : w.heap.size ≤ w1.heap.size := hb1.size
  clear ht ho1 h
  go_wp2_with fail
  refine rowed_calls _ l _ hs1 (ten_fault Hten.out) (by omega) (ten_fine Hten.out) _ ?_
  intro w2 v2 hb2 ho2
  have hs2 : rpMove.SL w2 w2.heap.size (row 10 l) v2 := SLMove_own ho2 (Nat.le_refl _)
  have hz2 : w1.heap.size ≤ w2.heap.size := hb2.size
  clear ho2
  go_wp2_with fail
  refine placed_calls _ (row 10 l) _ hs2 (row_range Hten.out) _ ?_
  intro w3 v3 hb3 ho3
  have hz3 : w2.heap.size ≤ w3.heap.size := hb3.size
  have hpl : (placedL (row 10 l)).length = 11 := by rw [placedL, placed_length]; rfl
  have hs3 : rpInt.SL w3 w3.heap.size (placedL (row 10 l)) v3 := Rp.SL.of_ints (by rw [hpl]; exact ho3) (Nat.le_refl _)
  have hl3 : rpMove.SL w3 w3.heap.size l v1 := hs1.up (by repeat (first | exact Below.refl _ _ | assumption | refine below_drewN ?_ _ | refine Below.drew ?_ | refine Below.setCell ?_ (by first | omega | (simp; done) | (simp; omega)) _ | refine Below.alloc ?_ (by first | omega | (simp; done) | (simp; omega)) _ | refine below_step (by assumption) ?_ (by first | omega | (simp; done) | (simp; omega)))) (by first | omega | (simp; done) | (simp; omega))
  have hb : Below w.heap.size w w3 := (by repeat (first | exact Below.refl _ _ | assumption | refine below_drewN ?_ _ | refine Below.drew ?_ | refine Below.setCell ?_ (by first | omega | (simp; done) | (simp; omega)) _ | refine Below.alloc ?_ (by first | omega | (simp; done) | (simp; omega)) _ | refine below_step (by assumption) ?_ (by first | omega | (simp; done) | (simp; omega))))
  have Hb := Lib.hid hb
  have Hpw : Hid (∀ i : Nat, i < 10 → (placedL (row 10 l)).getD i 0 = l.foldl (wantAt (i : Int)) (100 + (i : Int))) := fun i hi => placed_wanted Hten.out hi
  generalize placedL (row 10 l) = P at *
  obtain ⟨A1, c1, rfl, hm1, hcap1, hl3⟩ := hl3.cases_
  obtain ⟨A3, c3, rfl, hm3, hcap3, hs3⟩ := hs3.cases_
  have hb1 : ∀ m ∈ l, 0 ≤ m.to ∧ m.to ≤ 9 ∧ 0 ≤ m.src ∧ m.src ≤ 9 := Hten.out.2
  have Hrg := Lib.hid hb1
  clear hb hb1 hb2 hb3 ho3 hs1 hs2
  have Hpl := Lib.hid hpl
  clear hpl
  go_wp2
  go_loopg [8] 10 (fun g i wx => ∃ k : Nat, k ≤ 10 ∧ g = 10 - k ∧ i = .int .i64 k ∧ wx = w3)
  case atStart => exact ⟨0, by omega, rfl, rfl, rfl⟩
  case round =>
    obtain ⟨k, hk, rfl, rfl, rfl⟩ := hrel
    by_cases hlt : k < 10
    · have i0 : (0 : Int) ≤ (k : Int) := Int.natCast_nonneg _
      have i1 : (k : Int) < 10 := by omega
      go_wp2
      go_loopg [9, 10] l.length (fun g want i wx => ∃ j : Nat, j ≤ l.length ∧ g = l.length - j ∧ i = .int .i64 j ∧ want = .int .i64 ((l.take j).foldl (wantAt (k : Int)) (100 + (k : Int))) ∧ wx = wr)
      case atStart => exact ⟨0, Nat.zero_le _, rfl, rfl, rfl, rfl⟩
      case round =>
        rename World => wy
        obtain ⟨j, hj, rfl, rfl, rfl, rfl⟩ := hrel
        by_cases hjl : j < l.length
        · obtain ⟨b, off, m, rfl, hbk, e, p0, p1⟩ := hl3.move_at hjl
          have hf := Lib.hid (foldl_take (wantAt (k : Int)) (100 + (k : Int)) e)
          have hr := Hrg.out m (List.mem_of_getElem? e)
          obtain ⟨r1, r2, r3, r4⟩ := hr
          generalize (l.take j).foldl (wantAt (k : Int)) (100 + (k : Int)) = acc at *
          have i2 : (0 : Int) ≤ (j : Int) := Int.natCast_nonneg _
          have i3 : (j : Int) < (l.length : Int) := by omega
          clear e
          by_cases hmt : m.to = (k : Int)
          · have hmb : (m.to == (k : Int)) = true := by simp [hmt]
            have Hmt := Lib.hid hmt
            clear hmt
            go_wp2
            go_roundg (l.length - (j + 1))
            case measure => omega
            case rel => exact ⟨j + 1, by omega, rfl, by go_num, by rw [hf.out, wantAt, if_pos Hmt.out], rfl⟩
          · have hmb : (m.to == (k : Int)) = false := by simp [hmt]
            go_wp2
            go_roundg (l.length - (j + 1))
            case measure => omega
            case rel => exact ⟨j + 1, by omega, rfl, by go_num, by rw [hf.out, wantAt, if_neg hmt], rfl⟩
        · obtain rfl : j = l.length := by omega
          rw [List.take_length, ← Hpw.out k hlt]
          obtain ⟨b, off, rfl, hbk, p0⟩ := hs3.int_at (k := k) (by have := Hpl.out; omega)
          have i4 : (k : Int) < (P.length : Int) := by have := Hpl.out; omega
          generalize P.getD k 0 = z at *
          go_wp2
          go_roundg (10 - (k + 1))
          case measure => omega
          case rel => exact ⟨k + 1, by omega, rfl, by go_num, rfl⟩
    · obtain rfl : k = 10 := by omega
      go_wp2
      exact HR.out _ Hb.out
end Go.Proofs.Ytmlmnhhgdcfchaa
