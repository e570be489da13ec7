/- The index of a bundle: how names are compared, where one is found. -/
import Derived.Test.YtfhnmbnniklmiaaDoorBase
import Derived.Test.YtfhnmbnniklmiaaDoorRows
import Derived.IntWalk
import Derived.Deep.LoopGhost
import Derived.Outline
import Derived.Test.YtfhnmbnniklmiaaDoorBunI
namespace Go.Proofs.YtfhnmbnniklmiaaDoor
open Go.RowKit
set_option linter.unusedSimpArgs false
set_option linter.unusedVariables false

def cmpB (a b : ByteArray) : Int := if ltB a b = true then -1 else if a = b then 0 else 1
theorem ltB_less (a b : ByteArray) : Go.Op.bytesLess a.toList b.toList = ltB a b := by
  unfold ltB ltL
  rw [ByteArray.toList_eq, ByteArray.toList_eq]
theorem cmpB_lt {a b : ByteArray} : cmpB a b < 0 ↔ ltB a b = true := by
  unfold cmpB
  by_cases h : ltB a b = true
  · rw [if_pos h]; simp [h]
  · rw [if_neg h]
    split <;> simp [h]
theorem cmpB_zero {a b : ByteArray} : cmpB a b = 0 ↔ a = b := by
  unfold cmpB
  by_cases h : ltB a b = true
  · rw [if_pos h]
    constructor
    · intro e; simp at e
    · intro e; subst e; rw [ltB_irr] at h; cases h
  · rw [if_neg h]
    split <;> simp_all

theorem isNaN_calls (a : ByteArray) (w : World) (R : Ending → World → Prop) (hR : R (.returned (.bool false)) w) : Calls Tryd.prog 136 #[.string a] w R := by
  have HR := Lib.hid hR
  clear hR
  have he : (a.toList == a.toList) = true := by simp
  go_enter Tryd.func136, Tryd.ntmps136
  go_wp2
  exact HR.out
theorem Compare_calls (a b : ByteArray) (w : World) (R : Ending → World → Prop) (hR : R (.returned (.int .i64 (cmpB a b))) w) : Calls Tryd.prog 113 #[.string a, .string b] w R := by
  unfold cmpB at hR
  have hl := ltB_less a b
  have he := name_eq a b
  by_cases h1 : ltB a b = true
  · rw [if_pos h1] at hR
    rw [h1] at hl
    have HR := Lib.hid hR
    clear hR he
    go_enter Tryd.func113, Tryd.ntmps113
    go_wp2_with fail
    refine isNaN_calls a _ _ ?_
    go_wp2_with fail
    refine isNaN_calls b _ _ ?_
    go_wp2
    exact HR.out
  · rw [if_neg h1] at hR
    rw [Bool.not_eq_true] at h1
    rw [h1] at hl
    by_cases h2 : a = b
    · rw [if_pos h2] at hR
      rw [decide_eq_true h2] at he
      have HR := Lib.hid hR
      clear hR h2
      go_enter Tryd.func113, Tryd.ntmps113
      go_wp2_with fail
      refine isNaN_calls a _ _ ?_
      go_wp2_with fail
      refine isNaN_calls b _ _ ?_
      go_wp2
      exact HR.out
    · rw [if_neg h2] at hR
      rw [decide_eq_false h2] at he
      have HR := Lib.hid hR
      clear hR h2
      go_enter Tryd.func113, Tryd.ntmps113
      go_wp2_with fail
      refine isNaN_calls a _ _ ?_
      go_wp2_with fail
      refine isNaN_calls b _ _ ?_
      go_wp2
      exact HR.out
theorem idxCmp_calls (a b : ByteArray) (i : Int) (w : World) (R : Ending → World → Prop) (hR : ∀ w', Below w.heap.size w w' → R (.returned (.int .i64 (cmpB a b))) w') : Calls Tryd.prog 112 #[.agg #[.string a, .int .i64 i], .string b] w R := by
  have HR := Lib.hid hR
  clear hR
  go_enter Tryd.func112, Tryd.ntmps112
  go_wp2_with fail
  refine Compare_calls a b _ _ ?_
  go_wp2
  exact HR.out _ (by repeat (first | exact Below.refl _ _ | assumption | refine below_drewN ?_ _ | refine Below.drew ?_ | refine Below.setCell ?_ (by first | omega | (simp; done) | (simp; omega)) _ | refine Below.alloc ?_ (by first | omega | (simp; done) | (simp; omega)) _ | refine below_step (by assumption) ?_ (by first | omega | (simp; done) | (simp; omega))))

theorem own_ent {w : World} {base : Nat} {A : Option Addr} {n cap : Nat} {E : List (ByteArray × Nat)} (h : w.ownsRow base 125 2 (.slice A n cap) n (E.flatMap entCells)) {j : Nat} {x : ByteArray × Nat} (hx : E[j]? = some x) :
    ∃ g, A = some ⟨g, 0, none⟩ ∧ base ≤ g ∧ g < w.heap.size ∧ n ≤ cap ∧ w.cell? ⟨g, j * 2, none⟩ = some (.string x.1) ∧ w.cell? ⟨g, j * 2 + 1, none⟩ = some (.int .i64 (x.2 : Int)) := by
  obtain ⟨h1, h2⟩ := h
  rw [flat_length entCells 2 (fun _ => rfl) E] at h1
  have hj := (List.getElem?_eq_some_iff.1 hx).1
  rcases h2 with ⟨h2, h0⟩ | ⟨g, cap', cur, h2, hb, hg, hnc, hcm, hcs, htk⟩
  · omega
  · injection h2 with h3 h4 h5
    subst h5
    refine ⟨g, h3, hb, (Array.getElem?_eq_some_iff.1 hg).1, hnc, ?_, ?_⟩
    · have e := Rp.flat_get entCells 2 (fun _ => rfl) E j 0 x hx (by omega)
      rw [← htk, List.getElem?_take] at e
      split at e
      · simpa [World.cell?, hg, entCells] using e
      · simp [entCells] at e
    · have e := Rp.flat_get entCells 2 (fun _ => rfl) E j 1 x hx (by omega)
      rw [← htk, List.getElem?_take] at e
      split at e
      · simpa [World.cell?, hg, entCells] using e
      · simp [entCells] at e

set_option maxRecDepth 100000 in
set_option maxHeartbeats 4000000 in
/-- slices.BinarySearchFunc over an index that is in order: where the name belongs, and whether it is there. -/
theorem Search_calls (E : List (ByteArray × Nat)) (nm : ByteArray) (v : Value) (base : Nat) (w : World) (h : w.ownsRow base 125 2 v E.length (E.flatMap entCells)) (hs : Sorted (E.map Prod.fst)) (hlen : E.length ≤ 100000) (R : Ending → World → Prop)
    (hR : ∀ w', Below w.heap.size w w' → R (.returned (.tuple #[.int .i64 (posN (E.map Prod.fst) nm : Nat), .bool (inB (E.map Prod.fst) nm)])) w') :
    Calls Tryd.prog 111 #[v, .string nm, .func (.func 112) #[] #[]] w R := by
  obtain ⟨A, cap, rfl⟩ := own_slice h
  have HR := Lib.hid hR
  have H := Lib.hid h
  have Hs := Lib.hid hs
  clear hR hs h
  go_enter Tryd.func111, Tryd.ntmps111
  go_wp2
  go_loopg [9, 10] E.length (fun kx s9 s10 wr => ∃ lo hi : Nat, s9 = .int .i64 lo ∧ s10 = .int .i64 hi ∧ lo ≤ hi ∧ hi ≤ E.length ∧ hi - lo ≤ kx ∧ (∀ t x, t < lo → (E.map Prod.fst)[t]? = some x → ltB x nm = true) ∧ (∀ t x, hi ≤ t → (E.map Prod.fst)[t]? = some x → ltB x nm = false) ∧ Below w.heap.size w wr)
  case atStart => exact ⟨0, E.length, rfl, rfl, Nat.zero_le _, Nat.le_refl _, by omega, fun t x h => absurd h (Nat.not_lt_zero _), fun t x h1 h2 => (by have := (List.getElem?_eq_some_iff.1 h2).1; rw [List.length_map] at this; omega), Below.refl _ _⟩
  case round =>
    obtain ⟨lo, hi, rfl, rfl, hlh, hin, hg, hlo, hhi, hbel⟩ := hrel
    have Hlo := Lib.hid hlo
    have Hhi := Lib.hid hhi
    have Hbel := Lib.hid hbel
    have hz := hbel.size
    by_cases hlt : lo < hi
    · obtain ⟨m, hm⟩ : ∃ m, m = (lo + hi) / 2 := ⟨_, rfl⟩
      have hmE : m < E.length := by omega
      obtain ⟨g, rfl, hbg, hgl, hnc, p0, p1⟩ := own_ent H.out (List.getElem?_eq_getElem hmE)
      have hx : (E.map Prod.fst)[m]? = some E[m].1 := by rw [List.getElem?_map, List.getElem?_eq_getElem hmE]; rfl
      have Hx := Lib.hid hx
      generalize E[m] = x at *
      have r0 := (hbel.cell (p := ⟨g, m * 2, none⟩) hgl).trans p0
      have r1 := (hbel.cell (p := ⟨g, m * 2 + 1, none⟩) hgl).trans p1
      have hmI : ((lo : Int) + (hi : Int)) / 2 = (m : Int) := by omega
      have m1 : (0 : Int) ≤ (m : Int) := Int.natCast_nonneg _
      have m2 : (m : Int) < (E.length : Int) := by omega
      have m3 : lo ≤ m ∧ m < hi := by omega
      have i1 : (lo : Int) < (hi : Int) := by omega
      clear hx hlo hhi hbel p0 p1 hm
      go_wp2_with fail
      refine idxCmp_calls x.1 nm _ _ _ (fun w1 hb1 => ?_)
      have hb2 := Lib.hid (Hbel.out.trans (hb1.mono hz))
      clear hb1
      by_cases hc : cmpB x.1 nm < 0
      · have hst : Hid (∀ t y, t < m + 1 → (E.map Prod.fst)[t]? = some y → ltB y nm = true) := Lib.hid fun t y ht hy => by
          rcases Nat.lt_or_ge t m with h1 | h1
          · exact ltB_trans (sorted_get Hs.out h1 hy Hx.out) (cmpB_lt.1 hc)
          · obtain rfl : t = m := by omega
            obtain rfl : x.1 = y := Option.some.inj (Hx.out.symm.trans hy)
            exact cmpB_lt.1 hc
        go_wp2
        go_roundg (hi - (m + 1))
        case measure => omega
        case rel => exact ⟨m + 1, hi, by go_num, rfl, by omega, hin, Nat.le_refl _, hst.out, Hhi.out, hb2.out⟩
      · have hst : Hid (∀ t y, m ≤ t → (E.map Prod.fst)[t]? = some y → ltB y nm = false) := Lib.hid fun t y ht hy => by
          have hxn : ltB x.1 nm = false := by
            cases e : ltB x.1 nm with
            | false => rfl
            | true => exact absurd (cmpB_lt.2 e) hc
          rcases Nat.lt_or_ge m t with h1 | h1
          · have h2 := sorted_get Hs.out h1 Hx.out hy
            cases e : ltB y nm with
            | false => rfl
            | true => rw [ltB_trans h2 e] at hxn; cases hxn
          · obtain rfl : t = m := by omega
            obtain rfl : x.1 = y := Option.some.inj (Hx.out.symm.trans hy)
            exact hxn
        go_wp2
        go_roundg (m - lo)
        case measure => omega
        case rel => exact ⟨lo, m, rfl, rfl, by omega, by omega, Nat.le_refl _, Hlo.out, hst.out, hb2.out⟩
    · obtain rfl : lo = hi := by omega
      have hp : lo = posN (E.map Prod.fst) nm := posN_unique Hs.out (by rw [List.length_map]; exact hin) hlo hhi
      have Hp := Lib.hid hp
      have i1 : ¬ (lo : Int) < (lo : Int) := by omega
      by_cases hlt2 : lo < E.length
      · obtain ⟨g, rfl, hbg, hgl, hnc, p0, p1⟩ := own_ent H.out (List.getElem?_eq_getElem hlt2)
        have hx : (E.map Prod.fst)[lo]? = some E[lo].1 := by rw [List.getElem?_map, List.getElem?_eq_getElem hlt2]; rfl
        have Hx := Lib.hid hx
        generalize E[lo] = x at *
        have r0 := (hbel.cell (p := ⟨g, lo * 2, none⟩) hgl).trans p0
        have r1 := (hbel.cell (p := ⟨g, lo * 2 + 1, none⟩) hgl).trans p1
        have m1 : (0 : Int) ≤ (lo : Int) := Int.natCast_nonneg _
        have m2 : (lo : Int) < (E.length : Int) := by omega
        have hin' : inB (E.map Prod.fst) nm = decide (cmpB x.1 nm = 0) := by
          rw [Bool.eq_iff_iff, inB_iff, ← posN_mem Hs.out, ← hp, hx, decide_eq_true_iff, cmpB_zero]
          simp
        have Hin := Lib.hid hin'
        clear hx hlo hhi hbel p0 p1 hp hin'
        go_wp2_with fail
        refine idxCmp_calls x.1 nm _ _ _ (fun w1 hb1 => ?_)
        have hfin := HR.out w1 (Hbel.out.trans (hb1.mono hz))
        rw [Hin.out, ← Hp.out] at hfin
        have Hfin := Lib.hid hfin
        clear hfin hb1
        go_wp2
        exact Hfin.out
      · have m2 : ¬ (lo : Int) < (E.length : Int) := by omega
        have hin' : inB (E.map Prod.fst) nm = false := by
          cases hi : inB (E.map Prod.fst) nm with
          | false => rfl
          | true =>
            have := (posN_mem Hs.out).2 (inB_iff.1 hi)
            rw [← hp] at this
            have := (List.getElem?_eq_some_iff.1 this).1
            rw [List.length_map] at this
            omega
        have hfin := HR.out wr hbel
        rw [hin', ← hp] at hfin
        have Hfin := Lib.hid hfin
        clear hfin hlo hhi hbel hp hin'
        go_wp2
        exact Hfin.out
end Go.Proofs.YtfhnmbnniklmiaaDoor
