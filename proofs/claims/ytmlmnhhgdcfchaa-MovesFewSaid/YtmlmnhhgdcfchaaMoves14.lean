/- The law: one move more for each ring, and no other. -/
import Derived.Test.YtmlmnhhgdcfchaaLib
import Derived.Test.YtmlmnhhgdcfchaaRows
import Derived.IntWalk
import Derived.Deep.LoopGhost
import Derived.Test.YtmlmnhhgdcfchaaMoves13
namespace Go.Proofs.Ytmlmnhhgdcfchaa
open Go.RowKit
set_option linter.unusedSimpArgs false
set_option linter.unusedVariables false

theorem filter_snocB {p : Move → Bool} {l : List Move} {k : Nat} {m : Move} (h : l[k]? = some m) : ((l.take (k + 1)).filter p).length = ((l.take k).filter p).length + (if p m = true then 1 else 0) := by
  rw [filter_snoc h, List.length_append]
  split <;> rfl

set_option maxRecDepth 100000 in
set_option maxHeartbeats 1000000 in
theorem MovesFew_calls (v : Value) (raw : List Int) (w : World) (h : rpInt.SL w w.heap.size raw v) (hok : ∀ x ∈ raw, I64 x) (R : Ending → World → Prop)
    (hR : ∀ w', Below w.heap.size w w' → R (.returned (.bool true)) w') :
    Calls Try.prog 7 #[v] w R := by
  have HR := Lib.hid hR
  have Hok := Lib.hid hok
  clear hR hok
  go_enter Try.func7, Try.ntmps7
  go_wp2_with fail
  refine movesOf_calls _ raw _ h Hok.out _ ?_
  intro w1 v1 hb1 ho1
  have ht := ten_movesOf raw
  have hlen := ten_length ht
  generalize movesOf raw = l at *
  have Hten := Lib.hid ht
  have hs1 : rpMove.SL w1 w1.heap.size l v1 := SLMove_own ho1 (Nat.le_refl _)
  have hz1 : w.heap.size ≤ w1.heap.size := hb1.size
  clear ht ho1 h
  go_wp2_with fail
  refine rowed_calls _ l _ hs1 (ten_fault Hten.out) (by omega) (ten_fine Hten.out) _ ?_
  intro w2 v2 hb2 ho2
  have hs2 : rpMove.SL w2 w2.heap.size (row 10 l) v2 := SLMove_own ho2 (Nat.le_refl _)
  have hz2 : w1.heap.size ≤ w2.heap.size := hb2.size
  have hl2 : rpMove.SL w2 w2.heap.size l v1 := hs1.up (by repeat (first | exact Below.refl _ _ | assumption | refine below_drewN ?_ _ | refine Below.drew ?_ | refine Below.setCell ?_ (by first | omega | (simp; done) | (simp; omega)) _ | refine Below.alloc ?_ (by first | omega | (simp; done) | (simp; omega)) _ | refine below_step (by assumption) ?_ (by first | omega | (simp; done) | (simp; omega)))) (by first | omega | (simp; done) | (simp; omega))
  have hb : Below w.heap.size w w2 := hb1.trans (hb2.mono hz1)
  have Hb := Lib.hid hb
  have Few := Lib.hid (few_all Hten.out)
  have hcl : (movers l).length ≤ 10 := Nat.le_trans (List.length_filter_le _ _) hlen
  have hxl : (row 10 l).length ≤ 20 := by
    have h1 := (few_all Hten.out).1
    have h2 : ringsL l ≤ l.length := List.length_filter_le _ _
    omega
  clear hb1 hb2 hb ho2 hs1
  generalize row 10 l = X at *
  obtain ⟨A1, c1, rfl, hm1, hcap1, hl2⟩ := hl2.cases_
  obtain ⟨A2, c2, rfl, hm2, hcap2, hs2⟩ := hs2.cases_
  go_wp2
  go_loopg [6, 7] l.length (fun g n i wx => ∃ k : Nat, k ≤ l.length ∧ g = l.length - k ∧ i = .int .i64 k ∧ n = .int .i64 ((movers (l.take k)).length : Nat) ∧ ∃ d, wx = w2.drewN d)
  case atStart => exact ⟨0, Nat.zero_le _, rfl, rfl, rfl, 0, rfl⟩
  case round =>
    rename World => wx
    obtain ⟨k, hk, rfl, rfl, rfl, d, rfl⟩ := hrel
    by_cases hlt : k < l.length
    · obtain ⟨b, off, m, rfl, hb, e, p0, p1⟩ := hl2.move_at hlt
      have i1 : (0 : Int) ≤ (k : Int) := Int.natCast_nonneg _
      have i2 : (k : Int) < (l.length : Int) := by omega
      have Hf := Lib.hid (filter_snocB (p := fun m => !(m.to == m.src)) e)
      have hcn : (movers (l.take k)).length ≤ 20 := Nat.le_trans (List.length_filter_le _ _) (by simp; omega)
      change Hid ((movers (l.take (k + 1))).length = (movers (l.take k)).length + _) at Hf
      generalize (movers (l.take k)).length = F at *
      clear e
      by_cases hms : m.to = m.src
      · rw [if_neg (by simp [hms])] at Hf
        have hmb : (m.to != m.src) = false := by simp [hms]
        have Hms := Lib.hid hms
        clear hms
        go_wp2_with fail
        go_quiet (fail)
        go_wp2
        go_roundg (l.length - (k + 1))
        case measure => omega
        case rel => exact ⟨k + 1, by omega, rfl, by go_num, by rw [Hf.out]; rfl, _, rfl⟩
      · rw [if_pos (by simp [hms])] at Hf
        have hmb : (m.to != m.src) = true := by simp [hms]
        clear hms
        go_wp2_with fail
        go_quiet (fail)
        go_wp2
        go_roundg (l.length - (k + 1))
        case measure => omega
        case rel => exact ⟨k + 1, by omega, rfl, by go_num, by rw [Hf.out]; rfl, _, rfl⟩
    · obtain rfl : k = l.length := by omega
      rw [List.take_length]
      go_wp2
      go_loopg [8, 9] X.length (fun g n i wx => ∃ k : Nat, k ≤ X.length ∧ g = X.length - k ∧ i = .int .i64 k ∧ n = .int .i64 (((X.take k).filter (fun m => m.to == 10)).length : Nat) ∧ wx = w2.drewN d)
      case atStart => exact ⟨0, Nat.zero_le _, rfl, rfl, rfl, rfl⟩
      case round =>
        rename World => wx
        obtain ⟨j, hj, rfl, rfl, rfl, rfl⟩ := hrel
        by_cases hjl : j < X.length
        · obtain ⟨b, off, m, rfl, hb, e, p0, p1⟩ := hs2.move_at hjl
          have i1 : (0 : Int) ≤ (j : Int) := Int.natCast_nonneg _
          have i2 : (j : Int) < (X.length : Int) := by omega
          have Hf := Lib.hid (filter_snocB (p := fun m => m.to == 10) e)
          have hcn : ((X.take j).filter (fun m => m.to == 10)).length ≤ 20 := Nat.le_trans (List.length_filter_le _ _) (by simp; omega)
          generalize ((X.take j).filter (fun m => m.to == 10)).length = F at *
          clear e
          by_cases hmt : m.to = 10
          · have hmb : (m.to == 10) = true := by simp [hmt]
            rw [if_pos hmb] at Hf
            have Hmt := Lib.hid hmt
            clear hmt
            go_wp2
            go_roundg (X.length - (j + 1))
            case measure => omega
            case rel => exact ⟨j + 1, by omega, rfl, by go_num, by rw [Hf.out]; rfl, rfl⟩
          · have hmb : (m.to == 10) = false := by simp [hmt]
            rw [if_neg (by simp [hmt])] at Hf
            go_wp2
            go_roundg (X.length - (j + 1))
            case measure => omega
            case rel => exact ⟨j + 1, by omega, rfl, by go_num, by rw [Hf.out]; rfl, rfl⟩
        · obtain rfl : j = X.length := by omega
          rw [List.take_length, Few.out.2]
          have hfl := Few.out.1
          have hrl : ringsL l ≤ l.length := List.length_filter_le _ _
          have hsum : ((X.length : Int) == ((movers l).length : Int) + (ringsL l : Int)) = true := by simp; omega
          have Hfl := Lib.hid hfl
          clear hfl
          go_wp2_with fail
          refine rings_calls _ l _ (hl2.up (below_drewN (Below.refl _ _) _) (Nat.le_refl _)) Hten.out _ ?_
          intro w4 hb4
          have Hb4 := Lib.hid hb4
          clear hb4
          have hd : Below w2.heap.size w2 w4 := (below_drewN (Below.refl _ _) d).trans Hb4.out
          have Hd := Lib.hid (Hb.out.trans (hd.mono Hb.out.size))
          clear hd
          go_wp2
          exact HR.out _ Hd.out
end Go.Proofs.Ytmlmnhhgdcfchaa
