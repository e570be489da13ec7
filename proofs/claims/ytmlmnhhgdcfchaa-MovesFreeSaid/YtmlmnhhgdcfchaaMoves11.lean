/- The law: where nothing goes round the spare place stays. -/
import Derived.Test.YtmlmnhhgdcfchaaLib
import Derived.Test.YtmlmnhhgdcfchaaRows
import Derived.IntWalk
import Derived.Deep.LoopGhost
import Derived.Test.YtmlmnhhgdcfchaaMovesPlain3
namespace Go.Proofs.Ytmlmnhhgdcfchaa
open Go.RowKit
set_option linter.unusedSimpArgs false
set_option linter.unusedVariables false

theorem downs_step {l : List Move} {k : Nat} {m : Move} (h : l[k]? = some m) : downs (l.take (k + 1)) = downs (l.take k) ++ (if decide (m.to < m.src) = true then [m] else []) := by
  unfold downs
  rw [filter_snoc h]

set_option maxRecDepth 100000 in
set_option maxHeartbeats 1000000 in
theorem MovesFree_calls (v : Value) (raw : List Int) (w : World) (h : rpInt.SL w w.heap.size raw v) (hok : ∀ x ∈ raw, I64 x) (R : Ending → World → Prop)
    (hR : ∀ w', Below w.heap.size w w' → R (.returned (.bool true)) w') :
    Calls Try.prog 8 #[v] w R := by
  obtain ⟨i0, hi, hz0, hz1, hz2⟩ := info_parts info_Move
  have HR := Lib.hid hR
  have Hok := Lib.hid hok
  clear hR hok
  go_enter Try.func8, Try.ntmps8
  go_wp2_with fail
  refine movesOf_calls _ raw _ h Hok.out _ ?_
  intro w1 v1 hb1 ho1
  have ht := ten_movesOf raw
  have hlen := ten_length ht
  generalize movesOf raw = l at *
  have Hten := Lib.hid ht
  have hs1 : rpMove.SL w1 w1.heap.size l v1 := SLMove_own ho1 (Nat.le_refl _)
  have hzw1 : w.heap.size ≤ w1.heap.size := hb1.size
  clear ht ho1 h
  obtain ⟨A1, c1, rfl, hm1, hcap1, hs1⟩ := hs1.cases_
  go_wp2
  go_loopg [3, 5] l.length (fun g u i wr => ∃ k : Nat, k ≤ l.length ∧ g = l.length - k ∧ i = .int .i64 k ∧ wr.ownsRow w1.heap.size 47 2 u (downs (l.take k)).length ((downs (l.take k)).flatMap Move.cells) ∧ Below w1.heap.size w1 wr)
  case atStart => exact ⟨0, Nat.zero_le _, rfl, rfl, World.ownsRow_nil _ _ _ _, Below.refl _ _⟩
  case round =>
    obtain ⟨k, hk, rfl, rfl, hown, hbel⟩ := hrel
    by_cases hlt : k < l.length
    · obtain ⟨b, off, m, rfl, hb, e, p0, p1⟩ := hs1.move_at hlt
      rw [← hbel.cell (p := ⟨_, _, none⟩) hb] at p0 p1
      have hwz := hbel.size
      have hbz : b < wr.heap.size := by omega
      have i1 : (0 : Int) ≤ (k : Int) := Int.natCast_nonneg _
      have i2 : (k : Int) < (l.length : Int) := by omega
      have Hm := Lib.hid (downs_step e)
      have hlen2 : (downs (l.take k)).length ≤ 20 := Nat.le_trans (List.length_filter_le _ _) (by simp; omega)
      generalize downs (l.take k) = F at *
      clear e
      by_cases hms : m.to < m.src
      · rw [decide_eq_true hms, if_pos rfl] at Hm
        go_wp2_with fail
        go_quiet (fail)
        have hown' : (wr.drewN nq).ownsRow w1.heap.size 47 2 u3 F.length (F.flatMap Move.cells) := hown
        have hbel' := below_drewN hbel nq
        go_wp2_with (at_builtin; refine wpList_append_own _ rfl _ _ 34 rfl w1.heap.size 47 i0 _ 2 16 Try.underlying34 hi hz0 hz1 hz2 rfl (by decide) u3 F.length (F.flatMap Move.cells) rfl (hown'.alloc _) ⟨wr.heap.size, 0, none⟩ 1 1 [.int .i64 m.to, .int .i64 m.src] rfl rfl ?_ ?_ ?_ ?_ ?_ ?_)
        any_goals (first | exact World.news_of_block (cs := #[.int .i64 m.to, .int .i64 m.src]) (t := 47) (fr := (0, 0)) (heap_alloc_new wr _) | (simp [Value.oneCell']; done) | (unfold maxLen; omega) | omega | (simp; done) | (simp; omega))
        · intro v' w2 hown1 hgrow _
          have hbel1 := (hbel'.alloc hwz (.cells #[.int .i64 m.to, .int .i64 m.src] 47)).grown hgrow (by simp; omega) (fun k hk => (hown.lt k hk).1)
          have H1 := Lib.hid (And.intro hown1 hbel1)
          clear hown1 hbel1 hown hown' hbel hbel' hgrow p0 p1
          go_wp2
          go_roundg (l.length - (k + 1))
          case measure => omega
          case rel =>
            refine ⟨k + 1, by omega, rfl, by go_num, ?_, H1.out.2⟩
            rw [Hm.out, List.length_append, List.flatMap_append]
            exact H1.out.1
      · have hle : m.src ≤ m.to := by omega
        rw [decide_eq_false hms, if_neg (by simp), List.append_nil] at Hm
        go_wp2_with fail
        go_quiet (fail)
        go_wp2
        go_roundg (l.length - (k + 1))
        case measure => omega
        case rel =>
          refine ⟨k + 1, by omega, rfl, by go_num, ?_, below_drewN hbel _⟩
          rw [Hm.out]
          exact hown
    · obtain rfl : k = l.length := by omega
      rw [List.take_length] at hown
      have hd := ten_downs Hten.out
      have hdl := ten_length hd
      have hrow := row_downs Hten.out
      generalize downs l = dl at *
      have Hd := Lib.hid hd
      have Hrow := Lib.hid hrow
      obtain ⟨A3, c3, rfl⟩ := own_slice hown
      have hs3 : rpMove.SL wr wr.heap.size dl (.slice A3 dl.length c3) := SLMove_own hown (Nat.le_refl _)
      have hb3 : Below w.heap.size w wr := hb1.trans (hbel.mono hzw1)
      clear hd hrow hown hbel hs1 hb1
      go_wp2_with fail
      refine rowed_calls _ dl _ hs3 (ten_fault Hd.out) (by omega) (ten_fine Hd.out) _ ?_
      intro w4 v4 hb4 ho4
      have hrl := Hrow.out.1
      have hs4 : rpMove.SL w4 w4.heap.size (row 10 dl) v4 := SLMove_own ho4 (Nat.le_refl _)
      have hb5 : Below w.heap.size w w4 := hb3.trans (hb4.mono hb3.size)
      have Hb5 := Lib.hid hb5
      obtain ⟨A4, c4, rfl, hm4, hcap4, hs4⟩ := hs4.cases_
      have Hprop := Lib.hid Hrow.out.2
      generalize row 10 dl = X at *
      have hrl1 : ((X.length : Int) != (dl.length : Int)) = false := by simp [hrl]
      clear hb3 hb4 hb5 ho4 hs3 hrl Hrow Hd
      go_wp2
      go_loopg [8] X.length (fun q i wx => ∃ k : Nat, k ≤ X.length ∧ q = X.length - k ∧ i = .int .i64 k ∧ ∃ d, wx = w4.drewN d)
      case atStart => exact ⟨0, Nat.zero_le _, rfl, rfl, 0, rfl⟩
      case round =>
        rename World => wx
        obtain ⟨k, hk, rfl, rfl, d, rfl⟩ := hrel
        by_cases hlt : k < X.length
        · obtain ⟨b, off, mk, rfl, hb, ek, p0, p1⟩ := hs4.move_at hlt
          have Ek := Lib.hid ek
          have i1 : (0 : Int) ≤ (k : Int) := Int.natCast_nonneg _
          have i2 : (k : Int) < (X.length : Int) := by omega
          clear ek p1
          go_wp2
          go_loopg [9] (X.length - (k + 1)) (fun q i wx => ∃ j : Nat, k < j ∧ j ≤ X.length ∧ q = X.length - j ∧ i = .int .i64 j ∧ ∃ d, wx = w4.drewN d)
          case atStart => exact ⟨k + 1, by omega, by omega, rfl, by go_num, d, rfl⟩
          case round =>
            rename World => wy
            obtain ⟨j, hkj, hj, rfl, rfl, d2, rfl⟩ := hrel
            by_cases hjl : j < X.length
            · obtain ⟨b', off', mj, hA, _, ej, q0, q1⟩ := hs4.move_at hjl
              injection hA with hA
              injection hA with hA1 hA2
              subst hA1 hA2
              have hne : (mj.src == mk.to) = false := by
                have := Hprop.out k j mk mj hkj Ek.out ej
                simp [this]
              have i3 : (0 : Int) ≤ (j : Int) := Int.natCast_nonneg _
              have i4 : (j : Int) < (X.length : Int) := by omega
              clear ej q0
              go_wp2_with fail
              go_quiet (fail)
              go_wp2
              go_roundg (X.length - (j + 1))
              case measure => omega
              case rel => exact ⟨j + 1, by omega, by omega, rfl, by go_num, _, rfl⟩
            · obtain rfl : j = X.length := by omega
              go_wp2
              go_roundg (X.length - (k + 1))
              case measure => omega
              case rel => exact ⟨k + 1, by omega, rfl, by go_num, _, rfl⟩
        · obtain rfl : k = X.length := by omega
          go_wp2
          exact HR.out _ (below_drewN Hb5.out _)
end Go.Proofs.Ytmlmnhhgdcfchaa
