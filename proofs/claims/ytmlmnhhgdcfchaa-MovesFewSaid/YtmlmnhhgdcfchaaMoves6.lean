/- Moves: the reference's row, walked. -/
import Derived.Test.YtmlmnhhgdcfchaaLib
import Derived.Test.YtmlmnhhgdcfchaaRows
import Derived.IntWalk
import Derived.Deep.LoopGhost
import Derived.Test.YtmlmnhhgdcfchaaMoves5
namespace Go.Proofs.Ytmlmnhhgdcfchaa
open Go.RowKit
set_option linter.unusedSimpArgs false
set_option linter.unusedVariables false

set_option maxHeartbeats 400000 in
theorem SameMoves_calls (v1 v2 : Value) (xs ys : List Move) (w : World) (B : Nat) (h1 : rpMove.SL w B xs v1) (h2 : rpMove.SL w B ys v2) (R : Ending → World → Prop)
    (hR : ∀ n, R (.returned (.bool (decide (xs = ys)))) (w.drewN n)) :
    Calls Try.prog 17 #[v1, v2] w R := by
  obtain ⟨A1, c1, rfl, hm1, _, h1⟩ := h1.cases_
  obtain ⟨A2, c2, rfl, hm2, _, h2⟩ := h2.cases_
  have hms : Try.prog.eqGuardType Try.prog.depth 47 = false := by kernel_rfl
  by_cases hn : xs.length = ys.length
  · have hnb : ((xs.length : Int) != (ys.length : Int)) = false := by simp [hn]
    have hn1 : xs.length ≤ ys.length := by omega
    have Hn := Lib.hid hn
    clear hn
    go_enter Try.func17, Try.ntmps17
    go_wp2
    go_loopw [5] (fun i wr => ∃ k : Nat, k ≤ xs.length ∧ i = .int .i64 k ∧ xs.take k = ys.take k ∧ ∃ n, wr = w.drewN n) (fun i _ => xs.length - (intOf i).toNat)
    case atStart => exact ⟨0, Nat.zero_le _, rfl, rfl, 0, rfl⟩
    case round =>
      obtain ⟨k, hk, rfl, ht, n, rfl⟩ := hrel
      have Ht := Lib.hid ht
      clear ht
      by_cases hlt : k < xs.length
      · obtain ⟨b1, o1, m1, rfl, hb1, e1, p0, p1⟩ := h1.move_at hlt
        obtain ⟨b2, o2, m2, rfl, hb2, e2, q0, q1⟩ := h2.move_at (k := k) (by omega)
        have E1 := Lib.hid e1
        have E2 := Lib.hid e2
        have i1 : (0 : Int) ≤ (k : Int) := Int.natCast_nonneg _
        have i2 : (k : Int) < (xs.length : Int) := by omega
        have i3 : (k : Int) < (ys.length : Int) := by omega
        have hne := neq_Move m1 m2
        clear h1 h2 e1 e2
        by_cases hmm : m1 = m2
        · rw [decide_eq_true hmm] at hne
          have Hmm := Lib.hid hmm
          clear hmm
          go_wp2_with fail
          go_quiet (fail)
          go_wp2
          go_roundw
          case rel => exact ⟨k + 1, by omega, by go_num, take_same Ht.out E1.out E2.out Hmm.out, _, rfl⟩
          case measure => simp [intOf]; omega
        · rw [decide_eq_false hmm] at hne
          have Hmm := Lib.hid hmm
          clear hmm
          go_wp2_with fail
          go_quiet (fail)
          go_wp2
          rw [show decide (xs = ys) = false from decide_eq_false (fun e => Hmm.out (by have e1 := E1.out; rw [e, E2.out] at e1; exact (Option.some.inj e1).symm))] at hR
          have hR' := hR (n + nq)
          rw [← World.drewN_drewN] at hR'
          exact hR'
      · obtain rfl : k = xs.length := by omega
        go_wp2
        rw [show decide (xs = ys) = true from decide_eq_true (by have := Ht.out; rw [List.take_of_length_le (Nat.le_refl _), List.take_of_length_le (by rw [Hn.out]; exact Nat.le_refl _)] at this; exact this)] at hR
        exact hR _
  · have hnb : ((xs.length : Int) != (ys.length : Int)) = true := by simp; omega
    rw [show decide (xs = ys) = false from decide_eq_false (fun e => hn (by rw [e]))] at hR
    clear hn
    go_enter Try.func17, Try.ntmps17
    go_wp2
    exact hR 0


/-- The first free one from a place on. -/
def ff (p : Move → Bool) (l : List Move) (i : Nat) : Int := match (l.drop i).findIdx? p with
  | some t => ((i + t : Nat) : Int)
  | none => -1
theorem ff_end (p : Move → Bool) (l : List Move) : ff p l l.length = -1 := by simp [ff]
theorem ff_step {p : Move → Bool} {l : List Move} {i : Nat} {m : Move} (h : l[i]? = some m) : ff p l i = if p m = true then (i : Int) else ff p l (i + 1) := by
  have hi : i < l.length := (List.getElem?_eq_some_iff.1 h).1
  have hm : l[i] = m := by rw [List.getElem?_eq_getElem hi] at h; injection h
  unfold ff
  rw [List.drop_eq_getElem_cons hi, hm, List.findIdx?_cons]
  split
  · rename_i t ht
    split at ht
    · rename_i hp
      injection ht with ht
      rw [if_pos hp, ← ht]
      rfl
    · rename_i hp
      rw [if_neg hp]
      cases h2 : (l.drop (i + 1)).findIdx? p with
      | none => rw [h2] at ht; cases ht
      | some t2 =>
        rw [h2] at ht
        simp at ht
        subst ht
        show ((i + (t2 + 1) : Nat) : Int) = ((i + 1 + t2 : Nat) : Int)
        omega
  · rename_i ht
    split at ht
    · cases ht
    · rename_i hp
      rw [if_neg hp]
      cases h2 : (l.drop (i + 1)).findIdx? p with
      | none => rfl
      | some t2 => rw [h2] at ht; cases ht
theorem ff_zero (p : Move → Bool) (l : List Move) : ff p l 0 = idx p l := by
  unfold ff idx
  rw [List.drop_zero]
  cases l.findIdx? p <;> simp

theorem any_step {p : Move → Bool} {l : List Move} {k : Nat} {o : Move} (h : l[k]? = some o) : (l.take (k + 1)).any p = ((l.take k).any p || p o) := by
  rw [List.take_add_one, h]
  simp

theorem movers_step {l : List Move} {k : Nat} {m : Move} (h : l[k]? = some m) : movers (l.take (k + 1)) = movers (l.take k) ++ (if !(m.to == m.src) then [m] else []) := by
  unfold movers
  rw [filter_snoc h]

set_option maxRecDepth 100000 in
set_option maxHeartbeats 2000000 in
theorem MovesRow_calls (v : Value) (xs : List Move) (spare : Int) (w : World) (h : rpMove.SL w w.heap.size xs v) (hn : xs.length ≤ 1000) (hf : Fine spare (movers xs)) (R : Ending → World → Prop)
    (hR : ∀ w' v', Below w.heap.size w w' → w'.ownsRow w.heap.size 47 2 v' (row spare xs).length ((row spare xs).flatMap Move.cells) → R (.returned v') w') :
    Calls Try.prog 18 #[v, .int .i64 spare] w R := by
  obtain ⟨i0, hi, hz0, hz1, hz2⟩ := info_parts info_Move
  obtain ⟨A, n, rfl, hm, hcap, h⟩ := h.cases_
  have HR := Lib.hid hR
  clear hR
  go_enter Try.func18, Try.ntmps18
  go_wp2
  go_loopg [5, 6] xs.length (fun g u i wr => ∃ k : Nat, k ≤ xs.length ∧ g = xs.length - k ∧ i = .int .i64 k ∧ wr.ownsRow w.heap.size 47 2 u (movers (xs.take k)).length ((movers (xs.take k)).flatMap Move.cells) ∧ Below w.heap.size w wr)
  case atStart => exact ⟨0, Nat.zero_le _, rfl, rfl, World.ownsRow_nil _ _ _ _, Below.refl _ _⟩
  case round =>
    obtain ⟨k, hk, rfl, rfl, hown, hbel⟩ := hrel
    by_cases hlt : k < xs.length
    · obtain ⟨b, off, m, rfl, hb, e, p0, p1⟩ := h.move_at hlt
      rw [← hbel.cell (p := ⟨_, _, none⟩) hb] at p0 p1
      have hwz := hbel.size
      have hbz : b < wr.heap.size := by omega
      have i1 : (0 : Int) ≤ (k : Int) := Int.natCast_nonneg _
      have i2 : (k : Int) < (xs.length : Int) := by omega
      have Hm := Lib.hid (movers_step e)
      have hlen : (movers (xs.take k)).length ≤ 1000 := Nat.le_trans (List.length_filter_le _ _) (by simp; omega)
      generalize movers (xs.take k) = F at *
      clear e h
      by_cases hms : m.to = m.src
      · have hne : (m.to != m.src) = false := by simp [hms]
        have Hms := Lib.hid hms
        clear hms
        go_wp2_with fail
        go_quiet (fail)
        go_wp2
        go_roundg (xs.length - (k + 1))
        case measure => omega
        case rel =>
          refine ⟨k + 1, by omega, rfl, by go_num, ?_, below_drewN hbel _⟩
          rw [Hm.out, Hms.out, show (if (!(m.src == m.src)) = true then [m] else []) = [] from by simp, List.append_nil]
          exact hown
      · have hne : (m.to != m.src) = true := by simp [hms]
        go_wp2_with fail
        go_quiet (fail)
        have hown' : (wr.drewN nq).ownsRow w.heap.size 47 2 u5 F.length (F.flatMap Move.cells) := hown
        have hbel' := below_drewN hbel nq
        go_wp2_with (at_builtin; refine wpList_append_own _ rfl _ _ 34 rfl w.heap.size 47 i0 _ 2 16 Try.underlying34 hi hz0 hz1 hz2 rfl (by decide) u5 F.length (F.flatMap Move.cells) rfl (hown'.alloc _) ⟨wr.heap.size, 0, none⟩ 1 1 [.int .i64 m.to, .int .i64 m.src] rfl rfl ?_ ?_ ?_ ?_ ?_ ?_)
        · exact World.news_of_block (cs := #[.int .i64 m.to, .int .i64 m.src]) (t := 47) (fr := (0, 0)) (heap_alloc_new wr _)
        · simp [Value.oneCell']
        · unfold maxLen; omega
        · omega
        · simp; omega
        · intro v' w1 hown1 hgrow _
          have hbel1 := (hbel'.alloc hwz (.cells #[.int .i64 m.to, .int .i64 m.src] 47)).grown hgrow (by simp; omega) (fun k hk => (hown.lt k hk).1)
          clear hown hown' hbel hbel' hgrow p0 p1
          go_wp2
          go_roundg (xs.length - (k + 1))
          case measure => omega
          case rel =>
            refine ⟨k + 1, by omega, rfl, by go_num, ?_, hbel1⟩
            rw [Hm.out, show (if (!(m.to == m.src)) = true then [m] else []) = [m] from by simp [hms], List.length_append, List.flatMap_append]
            exact hown1
    · obtain rfl : k = xs.length := by omega
      rw [List.take_length] at hown
      have hfm := hf
      have hrow : row spare xs = rowN spare (mu (movers xs)) (movers xs) := rfl
      have hl0 : (movers xs).length ≤ 1000 := Nat.le_trans (List.length_filter_le _ _) hn
      generalize movers xs = left0 at *
      have Hrow := Lib.hid hrow
      clear hrow hfm
      obtain ⟨A0, c0, rfl⟩ := own_slice hown
      have Hx := Lib.hid (And.intro hown hbel)
      clear hown hbel h
      go_wp2
      go_loopg [5, 7] (mu left0) (fun g u o wx => ∃ (left out : List Move) (A : Option Addr) (c m : Nat), g = mu left ∧ mu left ≤ m ∧ out ++ rowN spare m left = rowN spare (mu left0) left0 ∧ Fine spare left ∧ out.length + mu left ≤ mu left0 ∧ u = .slice A left.length c ∧
        wx.ownsRow w.heap.size 47 2 (.slice A left.length c) left.length (left.flatMap Move.cells) ∧ wx.ownsRow w.heap.size 47 2 o out.length (out.flatMap Move.cells) ∧
        (∀ g, (Value.slice A left.length c).ownBlock = some g → o.ownBlock ≠ some g) ∧ Below w.heap.size w wx)
      case atStart =>
        refine ⟨left0, [], A0, c0, mu left0, rfl, Nat.le_refl _, rfl, hf, by simp, rfl, Hx.out.1, World.ownsRow_nil _ _ _ _, ?_, Hx.out.2⟩
        intro g _ e
        simp [Value.ownBlock] at e
      case round =>
        rename World => wr
        obtain ⟨left, out, A, c, m, rfl, hmu, htot, hfine, hsize, rfl, hown, hout, hsep, hbel⟩ := hrel
        have hm0 : mu left0 ≤ 2001 := by unfold mu; split <;> omega
        by_cases hemp : left = []
        · subst hemp
          rw [rowN_nil, List.append_nil] at htot
          have Ht := Lib.hid htot
          have Hy : Hid (Below w.heap.size w wr ∧ wr.ownsRow w.heap.size 47 2 u7 out.length (out.flatMap Move.cells)) := ⟨hbel, hout⟩
          clear htot hown hout hsep hbel
          go_wp2
          refine HR.out _ _ Hy.out.1 ?_
          rw [Hrow.out, ← Ht.out]
          exact Hy.out.2
        · have hll : 2 * left.length ≤ mu left := by unfold mu; omega
          have hpos : 0 < left.length := List.length_pos_iff.2 hemp
          have hp1 : (0 : Int) < (left.length : Int) := by omega
          obtain ⟨g, cap, hv, hbg, hgl, hnc, hmx⟩ := own_some hown hpos
          injection hv with hv1 _ hv3
          subst hv1 hv3
          have hsl : rpMove.SL wr wr.heap.size left (.slice (some ⟨g, 0, none⟩) left.length c) := SLMove_own hown (Nat.le_refl _)
          have hsep1 : u7.ownBlock ≠ some g := hsep g rfl
          have Hx2 : Hid (wr.ownsRow w.heap.size 47 2 (.slice (some ⟨g, 0, none⟩) left.length c) left.length (left.flatMap Move.cells) ∧ wr.ownsRow w.heap.size 47 2 u7 out.length (out.flatMap Move.cells) ∧ Below w.heap.size w wr) := ⟨hown, hout, hbel⟩
          have Ht := Lib.hid htot
          clear hown hout hsep hbel htot
          go_wp2
          go_loopg [8, 9] left.length (fun q f j wy => ∃ i : Nat, i ≤ left.length ∧ q = i ∧ j = .int .i64 ((i : Int) - 1) ∧ f = .int .i64 (ff (freeIn left) left i) ∧ ∃ d, wy = wr.drewN d)
          case atStart => exact ⟨left.length, Nat.le_refl _, rfl, rfl, by rw [ff_end], 0, rfl⟩
          case round =>
            rename World => wy
            obtain ⟨i, hil, hq0, rfl, rfl, d, rfl⟩ := hrel
            have Hq := Lib.hid hq0
            clear hq0
            cases i with
            | succ t =>
              obtain ⟨b', off', mt, hA, _, et, q0, q1⟩ := hsl.move_at (k := t) (by omega)
              injection hA with hA
              injection hA with hA1 hA2
              subst hA1 hA2
              have Hff := Lib.hid (ff_step (p := freeIn left) et)
              generalize hffv : ff (freeIn left) left (t + 1) = fv at *
              rw [Nat.zero_add] at q0
              have i1 : (0 : Int) ≤ (t : Int) := Int.natCast_nonneg _
              have i2 : (t : Int) < (left.length : Int) := by omega
              have Hfv := Lib.hid hffv
              clear et q1 hffv
              rw [show (((t + 1 : Nat) : Int) - 1) = (t : Int) from by omega]
              go_wp2
              go_loopg [10, 11] left.length (fun q b kk wz => ∃ k : Nat, k ≤ left.length ∧ q = left.length - k ∧ kk = .int .i64 k ∧ b = .bool ((left.take k).any (fun o => o.src == mt.to)) ∧ ∃ d, wz = wr.drewN d)
              case atStart => exact ⟨0, Nat.zero_le _, rfl, rfl, by simp, d, rfl⟩
              case round =>
                rename World => wz
                obtain ⟨k, hk, rfl, rfl, rfl, d2, rfl⟩ := hrel
                by_cases hlt : k < left.length
                · obtain ⟨b', off', mk, hA, _, ek, r0, r1⟩ := hsl.move_at hlt
                  injection hA with hA
                  injection hA with hA1 hA2
                  subst hA1 hA2
                  rw [Nat.zero_add] at r1
                  have Hany := Lib.hid (any_step (p := fun o => o.src == mt.to) ek)
                  have i3 : (0 : Int) ≤ (k : Int) := Int.natCast_nonneg _
                  have i4 : (k : Int) < (left.length : Int) := by omega
                  clear ek r0
                  cases hq : (left.take k).any (fun o => o.src == mt.to) with
                  | true =>
                    rw [hq] at Hany
                    clear hq
                    go_wp2_with fail
                    go_quiet (fail)
                    go_wp2
                    go_roundg (left.length - (k + 1))
                    case measure => omega
                    case rel => exact ⟨k + 1, by omega, rfl, by go_num, by rw [Hany.out, Bool.true_or], _, rfl⟩
                  | false =>
                    rw [hq] at Hany
                    clear hq
                    go_wp2_with fail
                    go_quiet (fail)
                    go_wp2
                    go_roundg (left.length - (k + 1))
                    case measure => omega
                    case rel => exact ⟨k + 1, by omega, rfl, by go_num, by rw [Hany.out, Bool.false_or], _, rfl⟩
                · obtain rfl : k = left.length := by omega
                  rw [List.take_length]
                  have hfr : freeIn left mt = !(left.any (fun o => o.src == mt.to)) := rfl
                  rw [hfr] at Hff
                  clear hfr
                  cases hq : left.any (fun o => o.src == mt.to) with
                  | true =>
                    rw [hq] at Hff
                    clear hq
                    go_wp2
                    go_roundg t
                    case measure => have := Hq.out; omega
                    case rel => exact ⟨t, by omega, rfl, rfl, by rw [Hff.out]; rfl, _, rfl⟩
                  | false =>
                    rw [hq] at Hff
                    clear hq
                    go_wp2
                    go_roundg t
                    case measure => have := Hq.out; omega
                    case rel => exact ⟨t, by omega, rfl, rfl, by rw [Hff.out]; rfl, _, rfl⟩
            | zero =>
              rw [ff_zero]
              rw [show (((0 : Nat) : Int) - 1) = (-1 : Int) from rfl]
              obtain ⟨xo, xu, xb⟩ := Hx2.out
              have xo' : (wr.drewN d).ownsRow w.heap.size 47 2 (.slice (some ⟨g, 0, none⟩) left.length c) left.length (left.flatMap Move.cells) := xo
              have xu' : (wr.drewN d).ownsRow w.heap.size 47 2 u7 out.length (out.flatMap Move.cells) := xu
              have xb' := below_drewN xb d
              have hgl' : g < (wr.drewN d).heap.size := hgl
              have hsl' : rpMove.SL (wr.drewN d) (wr.drewN d).heap.size left (.slice (some ⟨g, 0, none⟩) left.length c) := SLMove_own xo' (Nat.le_refl _)
              generalize wr.drewN d = w3 at *
              have Ho3 := Lib.hid xo'
              have hown3 := xu'
              have Hb3 := Lib.hid xb'
              have hw3 : w.heap.size ≤ w3.heap.size := xb'.size
              clear xo xu xb xo' xu' xb' Hx2 hsl Hq
              cases hfi : left.findIdx? (freeIn left) with
              | some i =>
                obtain ⟨hmul, hil2, hfree, hmem⟩ := mu_some hfi
                have hid : idx (freeIn left) left = (i : Int) := by rw [idx, hfi]
                rw [hid]
                have Hfi := Lib.hid hfi
                clear hid hfi hfree hmem
                obtain ⟨b', off', m', hA, _, e', p0, p1⟩ := hsl'.move_at hil2
                injection hA with hA
                injection hA with hA1 hA2
                subst hA1 hA2
                rw [Nat.zero_add] at p0 p1
                have E' := Lib.hid e'
                clear e' hsl'
                have i1 : (0 : Int) ≤ (i : Int) := Int.natCast_nonneg _
                have i2 : (i : Int) < (left.length : Int) := by omega
                go_wp2_with (at_builtin; refine wpList_append_lies _ rfl _ _ 34 rfl w.heap.size 47 i0 _ 2 16 Try.underlying34 hi hz0 hz1 hz2 rfl (by decide) u7 out.length (out.flatMap Move.cells) rfl (hown3.alloc _) ⟨w3.heap.size, 0, none⟩ 1 1 [.int .i64 m'.to, .int .i64 m'.src] rfl rfl ?_ ?_ (by decide) ?_ ?_ ?_ (w3.heap.size + 1) ?_ ?_)
                any_goals (first | exact World.news_of_block (cs := #[.int .i64 m'.to, .int .i64 m'.src]) (t := 47) (fr := (0, 0)) (heap_alloc_new w3 _) | (simp [Value.oneCell']; done) | (unfold maxLen; omega) | omega | (simp; done) | (simp; omega))
                · intro gg cp w4 hout4 hgrow hat hlt4
                  have hg4 := (World.grownBy_alloc w3 (.cells #[.int .i64 m'.to, .int .i64 m'.src] 47) u7.ownBlock).trans hgrow
                  have ho4 := Ho3.out.kept hg4 (.inr (fun e => hsep1 e.symm))
                  have hb4 : Below w.heap.size w w4 := Hb3.out.grown hg4 Hb3.out.size (fun k hk => (hown3.lt k hk).1)
                  have hgg : gg ≠ g := by
                    rcases hat with h | h
                    · rintro rfl; exact hsep1 h
                    · omega
                  have hg4l : g < w4.heap.size := by have := hg4.size; omega
                  have hnews1 : Hid (∀ j u, ((left.take i).flatMap Move.cells)[j]? = some u → w4.drew.cell? ((⟨g, 0, none⟩ : Addr).add j) = some u) := by
                    intro j u hu
                    rw [← flat_take Move.cells 2 Move.cells_length, List.getElem?_take] at hu
                    split at hu
                    · rw [Addr.add_lit, Nat.zero_add]
                      exact (ho4.cellAt j (by omega)).trans hu
                    · cases hu
                  obtain ⟨A2, hA2, hnews2⟩ : ∃ A : Addr, (if c = i + 1 then some (⟨g, 0, none⟩ : Addr) else some ⟨g, (i + 1) * 2, none⟩) = some A ∧ Hid (∀ j u, ((left.drop (i + 1)).flatMap Move.cells)[j]? = some u → A.block = g ∧ w4.drew.cell? (A.add j) = some u) := by
                    have hfl : (left.flatMap Move.cells).length = left.length * 2 := ho4.1
                    by_cases h : c = i + 1
                    · refine ⟨⟨g, 0, none⟩, by simp [h], fun j u hu => ?_⟩
                      rw [List.drop_of_length_le (by omega)] at hu
                      simp at hu
                    · refine ⟨⟨g, (i + 1) * 2, none⟩, by simp [h], fun j u hu => ⟨rfl, ?_⟩⟩
                      rw [← flat_drop Move.cells 2 Move.cells_length] at hu
                      have hj : (i + 1) * 2 + j < left.length * 2 := by
                        have := (List.getElem?_eq_some_iff.1 hu).1
                        rw [List.length_drop, hfl] at this
                        omega
                      rw [Addr.add_lit]
                      rw [List.getElem?_drop] at hu
                      exact (ho4.cellAt _ hj).trans hu
                  have s1 : Hid (((left.drop (i + 1)).flatMap Move.cells).length = (left.length - (i + 1)) * 2) := by show _ = _; rw [flat_length Move.cells 2 Move.cells_length, List.length_drop]
                  have s2 : Hid (((left.take i).flatMap Move.cells).length = i * 2) := by show _ = _; rw [flat_length Move.cells 2 Move.cells_length, List.length_take, Nat.min_eq_left (by omega)]
                  have hic : i ≤ c := by omega
                  have hwr : IntKind.i64.wrap ((i : Int) + 1) = (i : Int) + 1 := by rw [IntKind.wrap_i64]; omega
                  have hq0 : (0 : Int) ≤ (i : Int) + 1 := by omega
                  have hq1 : (i : Int) + 1 ≤ (left.length : Int) := by omega
                  have hq2 : ((i : Int) + 1).toNat = i + 1 := by omega
                  have Ho4 := Lib.hid ho4
                  have Hout4 := Lib.hid hout4
                  have Hb4 := Lib.hid hb4
                  clear hg4 ho4 hb4 hgrow hat hout4 hown3 p0 p1
                  go_wp2_with fail
                  go_region_law (first | (refine step_append_own rfl (.const (.slice none 0 0)) (.tmp 115) 34 rfl w4.heap.size 47 i0 _ 2 16 Try.underlying34 hi hz0 hz1 hz2 rfl (by decide) (.slice none 0 0) 0 [] (by rfl) (World.ownsRow_nil _ _ _ _) ⟨g, 0, none⟩ i c ((left.take i).flatMap Move.cells) (by simp [Act.eval, Act.put]) s2.out hnews1.out (flat_one _) (by unfold maxLen; omega) (by omega) (Nat.le_refl _) ?_; intro v5 w5 hown5 hgrow5 hnil5) | (refine step_append_own rfl (.tmp 116) (.tmp 120) 34 rfl w4.heap.size 47 i0 _ 2 16 Try.underlying34 hi hz0 hz1 hz2 rfl (by decide) v5 (0 + i) _ (by simp [Act.eval, Act.put]) hown5 A2 (left.length - (i + 1)) (c - (i + 1)) ((left.drop (i + 1)).flatMap Move.cells) (by simp [Act.eval, Act.put]) s1.out (fun j u hu => (hgrow5.cell (hnews2.out j u hu).2 (by simp [Value.ownBlock]))) (flat_one _) (by unfold maxLen; omega) (by omega) (by have := hgrow5.size; exact this) ?_; intro v6 w6 hown6 hgrow6 hnil6))
                  have hel : (left.eraseIdx i).length = left.length - 1 := by rw [List.length_eraseIdx, if_pos hil2]
                  have hown7 : w6.ownsRow w4.heap.size 47 2 v6 (left.eraseIdx i).length ((left.eraseIdx i).flatMap Move.cells) := by
                    rw [List.nil_append, show 0 + i + (left.length - (i + 1)) = (left.eraseIdx i).length from by rw [hel]; omega, ← List.flatMap_append, ← List.eraseIdx_eq_take_drop_succ] at hown6
                    exact hown6
                  have hgr6 : w4.grownBy w6 v5.ownBlock := ⟨hgrow6.os.trans hgrow5.os, hgrow6.tape.trans hgrow5.tape, hgrow6.output.trans hgrow5.output, Nat.le_trans hgrow5.size hgrow6.size, fun k hk hne => (hgrow6.block k (Nat.lt_of_lt_of_le hk hgrow5.size) hne).trans (hgrow5.block k hk (by simp [Value.ownBlock]))⟩
                  have hv5 : ∀ k, v5.ownBlock = some k → w4.heap.size ≤ k := fun k hk => (hown5.lt k hk).1
                  have hout7 := Hout4.out.kept hgr6 (.inr (fun e => by
                    have := hv5 gg (by rw [← e]; rfl)
                    have := (Hout4.out.lt gg rfl).2
                    omega))
                  have hb7 : Below w.heap.size w w6 := Hb4.out.grown hgr6 Hb4.out.size (fun k hk => Nat.le_trans Hb4.out.size (hv5 k hk))
                  obtain ⟨A6, c6, rfl⟩ := own_slice hown7
                  have H7 := Lib.hid (And.intro hown7 (And.intro hout7 hb7))
                  clear hown5 hown6 hown7 hgrow5 hgrow6 hgr6 hout7 hb7 hnil5 hnil6 hv5
                  go_wp2
                  go_roundg (mu (left.eraseIdx i))
                  case measure => exact hmul
                  case rel =>
                    have hgd : left.getD i Move.zero = m' := by rw [List.getD_eq_getElem?_getD, E'.out]; rfl
                    obtain ⟨m2, rfl⟩ : ∃ m2, m = m2 + 1 := ⟨m - 1, by omega⟩
                    have ht := Ht.out
                    rw [rowN_some Hfi.out, hgd] at ht
                    refine ⟨left.eraseIdx i, out ++ [m'], A6, c6, m2, rfl, by omega, by rw [← ht]; simp, fine_erase hfine, by simp; omega, rfl, ownsRow_base H7.out.1 Hb4.out.size, ?_, ?_, H7.out.2.2⟩
                    · rw [List.length_append, List.flatMap_append]; exact H7.out.2.1
                    · intro k hk e
                      have h1 := (H7.out.1.lt k hk).1
                      have h2 := (Hout4.out.lt gg rfl).2
                      simp [Value.ownBlock] at e
                      omega
              | none =>
                have hid : idx (freeIn left) left = -1 := by rw [idx, hfi]
                rw [hid]
                have Hfi := Lib.hid hfi
                clear hid hfi
                obtain ⟨b', off', m0, hA, _, e', p0, p1⟩ := hsl'.move_at hpos
                injection hA with hA
                injection hA with hA1 hA2
                subst hA1 hA2
                have hgd0 : left.getD 0 Move.zero = m0 := by rw [List.getD_eq_getElem?_getD, e']; rfl
                have p1' : w3.cell? ⟨g, 1, none⟩ = some (.int .i64 m0.src) := by simpa using p1
                have Hg0 := Lib.hid hgd0
                clear e' p0 p1 hgd0 hsl'
                go_wp2_with (at_builtin; refine wpList_append_lies _ rfl _ _ 34 rfl w.heap.size 47 i0 _ 2 16 Try.underlying34 hi hz0 hz1 hz2 rfl (by decide) u7 out.length (out.flatMap Move.cells) rfl (hown3.alloc _) ⟨w3.heap.size, 0, none⟩ 1 1 [.int .i64 spare, .int .i64 m0.src] rfl rfl ?_ ?_ (by decide) ?_ ?_ ?_ (w3.heap.size + 1) ?_ ?_)
                any_goals (first | exact World.news_of_block (cs := #[.int .i64 spare, .int .i64 m0.src]) (t := 47) (fr := (0, 0)) (heap_alloc_new w3 _) | (simp [Value.oneCell']; done) | (unfold maxLen; omega) | omega | (simp; done) | (simp; omega))
                · intro gg cp w4 hout4 hgrow hat hlt4
                  have hg4 := (World.grownBy_alloc w3 (.cells #[.int .i64 spare, .int .i64 m0.src] 47) u7.ownBlock).trans hgrow
                  have ho4 := Ho3.out.kept hg4 (.inr (fun e => hsep1 e.symm))
                  have hb4 : Below w.heap.size w w4 := Hb3.out.grown hg4 Hb3.out.size (fun k hk => (hown3.lt k hk).1)
                  have hg4l : g < w4.heap.size := by have := hg4.size; omega
                  have hw4 : w.heap.size ≤ w4.heap.size := hb4.size
                  have hsl4 : rpMove.SL w4 w4.heap.size left (.slice (some ⟨g, 0, none⟩) left.length c) := SLMove_own ho4 (Nat.le_refl _)
                  have Hout4 := Lib.hid hout4
                  have Hb4 := Lib.hid hb4
                  clear hg4 ho4 hb4 hgrow hat hout4 hown3 p1'
                  go_wp2
                  go_loopg [13, 14] left.length (fun q u kk wx => ∃ k : Nat, k ≤ left.length ∧ q = left.length - k ∧ kk = .int .i64 k ∧ wx.ownsRow w4.heap.size 47 2 u k ((respare spare m0.src (left.take k)).flatMap Move.cells) ∧ Below w4.heap.size w4 wx)
                  case atStart => exact ⟨0, Nat.zero_le _, rfl, rfl, by simpa [respare] using World.ownsRow_nil _ _ _ _, Below.refl _ _⟩
                  case round =>
                    rename World => wx
                    obtain ⟨k, hk, rfl, rfl, hownx, hbx⟩ := hrel
                    have hwx : w4.heap.size ≤ wx.heap.size := hbx.size
                    by_cases hlt : k < left.length
                    · obtain ⟨b', off', mk, hA, _, ek, r0, r1⟩ := hsl4.move_at hlt
                      injection hA with hA
                      injection hA with hA1 hA2
                      subst hA1 hA2
                      rw [Nat.zero_add] at r0 r1
                      rw [← hbx.cell (p := ⟨_, _, none⟩) hg4l] at r0 r1
                      have hgx : g < wx.heap.size := by omega
                      have i1 : (0 : Int) ≤ (k : Int) := Int.natCast_nonneg _
                      have i2 : (k : Int) < (left.length : Int) := by omega
                      have Hrs : Hid (respare spare m0.src (left.take (k + 1)) = respare spare m0.src (left.take k) ++ [if mk.src = m0.src then ⟨mk.to, spare⟩ else mk]) := by
                        show _ = _
                        rw [List.take_add_one, ek]
                        simp [respare]
                      have hlen : (respare spare m0.src (left.take k)).length = k := by rw [respare_length, List.length_take, Nat.min_eq_left hk]
                      generalize respare spare m0.src (left.take k) = F at *
                      clear ek hlen
                      by_cases hs : mk.src = m0.src
                      · have hsb : (mk.src == m0.src) = true := by simp [hs]
                        rw [if_pos hs] at Hrs
                        have Hs := Lib.hid hs
                        clear hs
                        go_wp2_with (at_builtin; refine wpList_append_own _ rfl _ _ 34 rfl w4.heap.size 47 i0 _ 2 16 Try.underlying34 hi hz0 hz1 hz2 rfl (by decide) _ k (F.flatMap Move.cells) rfl ((hownx.alloc _).alloc _) ⟨wx.heap.size + 1, 0, none⟩ 1 1 [.int .i64 mk.to, .int .i64 spare] rfl rfl ?_ ?_ ?_ ?_ ?_ ?_)
                        any_goals (first | exact World.news_of_block (cs := #[.int .i64 mk.to, .int .i64 spare]) (t := 47) (fr := (0, 0)) (heap_alloc_new (wx.alloc (.cells #[.int .i64 mk.to, .int .i64 spare] 47)) _) | (simp [Value.oneCell']; done) | (unfold maxLen; omega) | omega | (simp; done) | (simp; omega))
                        · intro v' w1 hown1 hgrow _
                          have hb1 : Below w4.heap.size w4 w1 := ((hbx.alloc hwx _).alloc (by simp; omega) _).grown hgrow (by simp; omega) (fun k hk => (hownx.lt k hk).1)
                          have H1 := Lib.hid (And.intro hown1 hb1)
                          clear hown1 hb1 hgrow hownx hbx r0 r1
                          go_wp2
                          go_roundg (left.length - (k + 1))
                          case measure => omega
                          case rel =>
                            refine ⟨k + 1, by omega, rfl, by go_num, ?_, H1.out.2⟩
                            rw [Hrs.out, List.flatMap_append]
                            exact H1.out.1
                      · have hsb : (mk.src == m0.src) = false := by simp [hs]
                        rw [if_neg hs] at Hrs
                        go_wp2_with (at_builtin; refine wpList_append_own _ rfl _ _ 34 rfl w4.heap.size 47 i0 _ 2 16 Try.underlying34 hi hz0 hz1 hz2 rfl (by decide) _ k (F.flatMap Move.cells) rfl ((hownx.alloc _).alloc _) ⟨wx.heap.size + 1, 0, none⟩ 1 1 [.int .i64 mk.to, .int .i64 mk.src] rfl rfl ?_ ?_ ?_ ?_ ?_ ?_)
                        any_goals (first | exact World.news_of_block (cs := #[.int .i64 mk.to, .int .i64 mk.src]) (t := 47) (fr := (0, 0)) (heap_alloc_new (wx.alloc (.cells #[.int .i64 mk.to, .int .i64 mk.src] 47)) _) | (simp [Value.oneCell']; done) | (unfold maxLen; omega) | omega | (simp; done) | (simp; omega))
                        · intro v' w1 hown1 hgrow _
                          have hb1 : Below w4.heap.size w4 w1 := ((hbx.alloc hwx _).alloc (by simp; omega) _).grown hgrow (by simp; omega) (fun k hk => (hownx.lt k hk).1)
                          have H1 := Lib.hid (And.intro hown1 hb1)
                          clear hown1 hb1 hgrow hownx hbx r0 r1
                          go_wp2
                          go_roundg (left.length - (k + 1))
                          case measure => omega
                          case rel =>
                            refine ⟨k + 1, by omega, rfl, by go_num, ?_, H1.out.2⟩
                            rw [Hrs.out, List.flatMap_append]
                            exact H1.out.1
                    · obtain rfl : k = left.length := by omega
                      rw [List.take_length] at hownx
                      have hout8 := own_below Hout4.out hbx
                      have hb8 : Below w.heap.size w wx := Hb4.out.trans (hbx.mono hw4)
                      have hrl : (respare spare m0.src left).length = left.length := respare_length _ _ _
                      rw [← hrl] at hownx
                      obtain ⟨A6, c6, rfl⟩ := own_slice hownx
                      have H7 := Lib.hid (And.intro hownx (And.intro hout8 hb8))
                      have Hrl := Lib.hid hrl
                      clear hownx hout8 hb8 hbx hrl
                      go_wp2
                      go_roundg (mu (respare spare m0.src left))
                      case measure =>
                        have := mu_none hfine Hfi.out hemp
                        rw [Hg0.out] at this
                        exact this
                      case rel =>
                        have hlt := mu_none hfine Hfi.out hemp
                        obtain ⟨m2, rfl⟩ : ∃ m2, m = m2 + 1 := ⟨m - 1, by omega⟩
                        have ht := Ht.out
                        rw [rowN_none Hfi.out hemp] at ht
                        rw [Hg0.out] at ht hlt
                        refine ⟨respare spare m0.src left, out ++ [⟨spare, m0.src⟩], A6, c6, m2, rfl, by omega, by rw [← ht]; simp, fine_respare hfine, by simp; omega, by rw [Hrl.out], ownsRow_base H7.out.1 hw4, ?_, ?_, H7.out.2.2⟩
                        · rw [List.length_append, List.flatMap_append]; exact H7.out.2.1
                        · intro k hk e
                          have h1 := (H7.out.1.lt k hk).1
                          have h2 := (Hout4.out.lt gg rfl).2
                          simp [Value.ownBlock] at e
                          omega
end Go.Proofs.Ytmlmnhhgdcfchaa
