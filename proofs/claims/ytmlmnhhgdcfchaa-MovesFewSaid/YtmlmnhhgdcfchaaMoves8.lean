/- Moves made of raw numbers; moves done one behind the other. -/
import Derived.Test.YtmlmnhhgdcfchaaLib
import Derived.Test.YtmlmnhhgdcfchaaRows
import Derived.IntWalk
import Derived.Deep.LoopGhost
import Derived.Test.YtmlmnhhgdcfchaaMoves6
namespace Go.Proofs.Ytmlmnhhgdcfchaa
open Go.RowKit
set_option linter.unusedSimpArgs false
set_option linter.unusedVariables false

set_option maxHeartbeats 400000 in
theorem Picked_calls (a n : Int) (hn : 0 < n) (hm : n ≤ 1000000) (ha : I64 a) (w : World) (R : Ending → World → Prop) (hR : R (.returned (.int .i64 (a % n))) w) : Calls Try.prog 28 #[.int .i64 a, .int .i64 n] w R := by
  obtain ⟨h1, h2⟩ := ha
  have hne : (n == 0) = false := by simp; omega
  have hlt := Int.emod_lt_of_pos a hn
  have hge := Int.emod_nonneg a (show n ≠ 0 by omega)
  have he := @Int.tmod_eq_emod a n
  by_cases hc : 0 ≤ a ∨ n ∣ a
  · rw [if_pos hc] at he
    have ht : a.tmod n = a % n := by omega
    generalize a % n = r at *
    have Ht := Lib.hid ht
    clear he ht hc h1 h2
    by_cases h0 : 0 ≤ a.tmod n
    · go_enter Try.func28, Try.ntmps28
      go_wp2
      rw [← Ht.out] at hR
      exact hR
    · have := Ht.out
      omega
  · rw [if_neg hc] at he
    have ht : a.tmod n = a % n - n := by omega
    have hn0 : a % n ≠ 0 := fun e => hc (.inr (Int.dvd_of_emod_eq_zero e))
    generalize a % n = r at *
    have Ht := Lib.hid ht
    have h0 : a.tmod n < 0 := by omega
    have h5 : -1000000 ≤ a.tmod n := by omega
    clear he ht hc h1 h2
    go_enter Try.func28, Try.ntmps28
    go_wp2
    have e := Ht.out
    rw [show r = a.tmod n + n from by omega] at hR
    exact hR

def pick10 (a : Int) : Move := ⟨a % 10, a.tdiv 10 % 10⟩
def addMove (out : List Move) (m : Move) : List Move := if out.any (fun o => o.to == m.to) then out else out ++ [m]
def movesOf (l : List Int) : List Move := (l.take 20).foldl (fun out a => addMove out (pick10 a)) []
theorem addMove_length (out : List Move) (m : Move) : (addMove out m).length ≤ out.length + 1 := by unfold addMove; split <;> simp
theorem foldl_take {α β : Type} (f : β → α → β) (b : β) {l : List α} {k : Nat} {a : α} (h : l[k]? = some a) : (l.take (k + 1)).foldl f b = f ((l.take k).foldl f b) a := by
  rw [List.take_add_one, h]
  simp
theorem movesOf_len (l : List Int) : ∀ (out : List Move), (l.foldl (fun out a => addMove out (pick10 a)) out).length ≤ out.length + l.length := by
  induction l with
  | nil => intro out; simp
  | cons a l ih =>
    intro out
    have := ih (addMove out (pick10 a))
    have := addMove_length out (pick10 a)
    simp only [List.foldl_cons, List.length_cons]
    omega
theorem tdiv10 {a : Int} (h : I64 a) : I64 (a.tdiv 10) := by
  obtain ⟨h1, h2⟩ := h
  have := @Int.tdiv_eq_ediv a 10
  have hs : Int.sign 10 = 1 := rfl
  rw [hs] at this
  constructor <;> (rw [this]; split <;> omega)

set_option maxRecDepth 100000 in
set_option maxHeartbeats 1000000 in
theorem movesOf_calls (v : Value) (xs : List Int) (w : World) (h : rpInt.SL w w.heap.size xs v) (hok : ∀ x ∈ xs, I64 x) (R : Ending → World → Prop)
    (hR : ∀ w' v', Below w.heap.size w w' → w'.ownsRow w.heap.size 47 2 v' (movesOf xs).length ((movesOf xs).flatMap Move.cells) → R (.returned v') w') :
    Calls Try.prog 19 #[v, .int .i64 20] w R := by
  obtain ⟨i0, hi, hz0, hz1, hz2⟩ := info_parts info_Move
  obtain ⟨A, n, rfl, hm, hcap, h⟩ := h.cases_
  have HR := Lib.hid hR
  have Hok := Lib.hid hok
  clear hR hok
  go_enter Try.func19, Try.ntmps19
  go_wp2
  go_loopg [5, 6] 20 (fun g u i wr => ∃ k : Nat, k ≤ xs.length ∧ k ≤ 20 ∧ g = 20 - k ∧ i = .int .i64 k ∧ wr.ownsRow w.heap.size 47 2 u ((xs.take k).foldl (fun out a => addMove out (pick10 a)) []).length (((xs.take k).foldl (fun out a => addMove out (pick10 a)) []).flatMap Move.cells) ∧ Below w.heap.size w wr)
  case atStart => exact ⟨0, Nat.zero_le _, Nat.zero_le _, rfl, rfl, World.ownsRow_nil _ _ _ _, Below.refl _ _⟩
  case round =>
    obtain ⟨k, hk, hk2, rfl, rfl, hown, hbel⟩ := hrel
    by_cases hlt : k < xs.length ∧ k < 20
    · obtain ⟨hl1, hl2⟩ := hlt
      obtain ⟨b, off, rfl, hb, p0⟩ := h.int_at hl1
      have hx : xs[k]? = some (xs.getD k 0) := by rw [List.getD_eq_getElem?_getD, List.getElem?_eq_getElem hl1]; rfl
      have hfold := foldl_take (fun out a => addMove out (pick10 a)) [] hx
      obtain ⟨A5, c5, rfl⟩ := own_slice hown
      have hI : I64 (xs.getD k 0) := Hok.out _ (List.mem_of_getElem? hx)
      have hlen : ((xs.take k).foldl (fun out a => addMove out (pick10 a)) []).length ≤ 20 := by
        have := movesOf_len (xs.take k) []
        simp at this
        omega
      generalize (xs.take k).foldl (fun out a => addMove out (pick10 a)) [] = F at *
      generalize xs.getD k 0 = a at *
      have hI2 := tdiv10 hI
      have hw10 : IntKind.i64.wrap (a.tdiv 10) = a.tdiv 10 := IntWalk.i64_in _ hI2
      have HI := Lib.hid hI
      have HI2 := Lib.hid hI2
      have Hf := Lib.hid hfold
      rw [← hbel.cell (p := ⟨_, _, none⟩) hb] at p0
      have hwz := hbel.size
      have hbz : b < wr.heap.size := by omega
      have i1 : (0 : Int) ≤ (k : Int) := Int.natCast_nonneg _
      have i2 : (k : Int) < (xs.length : Int) := by omega
      clear hx hfold hI hI2 h
      go_wp2_with fail
      go_region_held3 (fun w' => w'.cell? ⟨b, off + k, none⟩ = some (.int .i64 a)) (first | go_keep) ((go_at_call 28; refine Picked_calls _ _ (by omega) (by omega) (by first | exact HI.out | exact HI2.out) _ _ ?_))
      all_goals
        have hpk : Hid (pick10 a = ⟨a % 10, a.tdiv 10 % 10⟩) := rfl
        generalize a % 10 = mt at *
        generalize a.tdiv 10 % 10 = ms at *
        have hown2 : ((wr.alloc (.cells #[.int .i64 mt, .int .i64 ms] 47)).drew).ownsRow w.heap.size 47 2 (.slice A5 F.length c5) F.length (F.flatMap Move.cells) := hown.alloc _
        have hbel2 : Below w.heap.size w ((wr.alloc (.cells #[.int .i64 mt, .int .i64 ms] 47)).drew) := (hbel.alloc hwz _).drew
        have hc0 : ((wr.alloc (.cells #[.int .i64 mt, .int .i64 ms] 47)).drew).cell? ⟨wr.heap.size, 0, none⟩ = some (.int .i64 mt) := by simp
        have hc1 : ((wr.alloc (.cells #[.int .i64 mt, .int .i64 ms] 47)).drew).cell? ⟨wr.heap.size, 1, none⟩ = some (.int .i64 ms) := by simp
        have hz9 : ((wr.alloc (.cells #[.int .i64 mt, .int .i64 ms] 47)).drew).heap.size = wr.heap.size + 1 := by simp
        generalize (wr.alloc (.cells #[.int .i64 mt, .int .i64 ms] 47)).drew = w5 at *
        have hz5 : wr.heap.size < w5.heap.size := by omega
        have hsl5 : rpMove.SL w5 w5.heap.size F (.slice A5 F.length c5) := SLMove_own hown2 (Nat.le_refl _)
        have H5 := Lib.hid (And.intro hown2 hbel2)
        clear hown hbel hown2 hbel2 hz9 hw10
        go_wp2
        go_loopg [8, 9] F.length (fun q hd kk wx => ∃ j : Nat, j ≤ F.length ∧ q = F.length - j ∧ kk = .int .i64 j ∧ hd = .bool ((F.take j).any (fun o => o.to == mt)) ∧ ∃ d, wx = w5.drewN d)
        case atStart => exact ⟨0, Nat.zero_le _, rfl, rfl, by simp, 0, rfl⟩
        case round =>
          rename World => wx
          obtain ⟨j, hj, rfl, rfl, rfl, d, rfl⟩ := hrel
          by_cases hlt : j < F.length
          · obtain ⟨b', off', o, rfl, hb', eo, q0, q1⟩ := hsl5.move_at hlt
            have Hany := Lib.hid (any_step (p := fun o => o.to == mt) eo)
            have i3 : (0 : Int) ≤ (j : Int) := Int.natCast_nonneg _
            have i4 : (j : Int) < (F.length : Int) := by omega
            clear eo q1
            cases hq : (F.take j).any (fun o => o.to == mt) with
            | true =>
              rw [hq] at Hany
              clear hq
              go_wp2_with fail
              go_quiet (fail)
              go_wp2
              go_roundg (F.length - (j + 1))
              case measure => omega
              case rel => exact ⟨j + 1, by omega, rfl, by go_num, by rw [Hany.out, Bool.true_or], _, rfl⟩
            | false =>
              rw [hq] at Hany
              clear hq
              go_wp2_with fail
              go_quiet (fail)
              go_wp2
              go_roundg (F.length - (j + 1))
              case measure => omega
              case rel => exact ⟨j + 1, by omega, rfl, by go_num, by rw [Hany.out, Bool.false_or], _, rfl⟩
          · obtain rfl : j = F.length := by omega
            rw [List.take_length]
            have hadd : Hid (addMove F ⟨mt, ms⟩ = if F.any (fun o => o.to == mt) then F else F ++ [⟨mt, ms⟩]) := rfl
            cases hq : F.any (fun o => o.to == mt) with
            | true =>
              rw [hq] at hadd
              clear hq
              go_wp2
              go_roundg (20 - (k + 1))
              case measure => omega
              case rel =>
                refine ⟨k + 1, by omega, by omega, rfl, by go_num, ?_, below_drewN H5.out.2 _⟩
                rw [Hf.out, hpk.out, hadd.out]
                exact H5.out.1
            | false =>
              rw [hq] at hadd
              clear hq
              have hown6 : (w5.drewN d).ownsRow w.heap.size 47 2 (.slice A5 F.length c5) F.length (F.flatMap Move.cells) := H5.out.1
              have hw6 : w.heap.size ≤ (w5.drewN d).heap.size := H5.out.2.size
              go_wp2_with (at_builtin; refine wpList_append_own _ rfl _ _ 34 rfl w.heap.size 47 i0 _ 2 16 Try.underlying34 hi hz0 hz1 hz2 rfl (by decide) _ F.length (F.flatMap Move.cells) rfl (hown6.alloc _) ⟨w5.heap.size, 0, none⟩ 1 1 [.int .i64 mt, .int .i64 ms] rfl rfl ?_ ?_ ?_ ?_ ?_ ?_)
              any_goals (first | exact World.news_of_block (cs := #[.int .i64 mt, .int .i64 ms]) (t := 47) (fr := (0, 0)) (heap_alloc_new (w5.drewN d) _) | (simp [Value.oneCell']; done) | (unfold maxLen; omega) | omega | (simp; done) | (simp; omega))
              · intro v' w7 hown7 hgrow _
                have hb7 : Below w.heap.size w w7 := ((below_drewN H5.out.2 d).alloc hw6 _).grown hgrow (by have := H5.out.2.size; simp; omega) (fun k hk => (H5.out.1.lt k hk).1)
                have H7 := Lib.hid (And.intro hown7 hb7)
                clear hown7 hb7 hgrow hown6
                go_wp2
                go_roundg (20 - (k + 1))
                case measure => omega
                case rel =>
                  refine ⟨k + 1, by omega, by omega, rfl, by go_num, ?_, H7.out.2⟩
                  rw [Hf.out, hpk.out, hadd.out]
                  simp only [Bool.false_eq_true, if_false, List.length_append, List.flatMap_append]
                  exact H7.out.1
    · have hfold : (xs.take k).foldl (fun out a => addMove out (pick10 a)) [] = movesOf xs := by
        unfold movesOf
        by_cases h20 : k < 20
        · obtain rfl : k = xs.length := by omega
          rw [List.take_length, List.take_of_length_le (by omega)]
        · obtain rfl : k = 20 := by omega
          rfl
      rw [hfold] at hown
      have Hx := Lib.hid (And.intro hown hbel)
      clear hown hbel hfold
      by_cases h20 : k < xs.length
      · have h21 : ¬ (k : Int) < 20 := by omega
        go_wp2
        exact HR.out _ _ Hx.out.2 Hx.out.1
      · go_wp2
        exact HR.out _ _ Hx.out.2 Hx.out.1
end Go.Proofs.Ytmlmnhhgdcfchaa
