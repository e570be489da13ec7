/- Package peep: more rules of an instruction alone. -/
import Derived.Test.YtkcmijnaheapdaaDoorBase
import Derived.Test.YtkcmijnaheapdaaDoorRows
import Derived.IntWalk
import Derived.Outline
import Derived.Deep.LoopGhost
import Derived.Deep.RegionLaw
import Derived.Test.YtkcmijnaheapdaaDoorPk8
namespace Go.Proofs.YtkcmijnaheapdaaDoor
open Go.RowKit
set_option linter.unusedSimpArgs false
set_option linter.unusedVariables false

set_option maxHeartbeats 1000000 in
theorem itself_calls {w : World} {l : List Mac} {p g cap base : Nat} {vl vr vm : Value} (h : WinO w l p g cap base vl vr vm) (i : Nat) (hi : i < l.length) (R : Ending → World → Prop)
    (hF : itselfR l i = none → ∀ w', Below w.heap.size w w' → R (.returned (.bool false)) w')
    (hT : ∀ l', itselfR l i = some l' → ∀ w', Below base w w' → Left w' base p l' → R (.returned (.bool true)) w') :
    Calls Tryd.prog 111 #[.pointer (some ⟨p, 0, none⟩), .int .i64 (i : Int)] w R := by
  have C := h.win.cells
  have c0 := C.c0
  have lp := C.lp
  have M := ownM_at h.own rfl hi
  have m0 := M.c0
  have m1 := M.c1
  have m2 := M.c2
  have m3 := M.c3
  have m4 := M.c4
  have lg := M.lg
  have i0 : (0 : Int) ≤ (i : Int) := by omega
  have i9 : (i : Int) < (l.length : Int) := by omega
  have hbl := h.base_le
  have H := Lib.hid h
  unfold itselfR at hF hT
  generalize atL l i = m at *
  clear C M h
  by_cases e2 : m.op = 2
  · have j2 : (m.op == 2) = true := by simpa using e2
    by_cases ea : m.dst = m.a
    · have ja : (m.dst == m.a) = true := by simpa using ea
      have HT := Lib.hid (hT _ (by rw [if_pos ⟨e2, ea⟩]))
      clear hT hF e2 ea
      go_enter Tryd.func111, Tryd.ntmps111
      go_wp2_with fail
      refine outW_calls (H.out.below (by exact bl0)) i hi _ (fun w1 hb1 hl1 => ?_)
      have H1 := Lib.hid (HT.out w1 (((by exact bl0 : Below w.heap.size w _).mono hbl).trans hb1) hl1)
      clear hb1 hl1
      go_wp2
      exact H1.out
    · have ja : (m.dst == m.a) = false := by simpa using ea
      have HF := Lib.hid (hF (by rw [if_neg (fun h => ea h.2)]))
      clear hT hF e2 ea
      go_enter Tryd.func111, Tryd.ntmps111
      go_wp2
      exact HF.out _ bl0
  · have j2 : (m.op == 2) = false := by simpa using e2
    have HF := Lib.hid (hF (by rw [if_neg (fun h => e2 h.1)]))
    clear hT hF e2
    go_enter Tryd.func111, Tryd.ntmps111
    go_wp2
    exact HF.out _ bl0
set_option maxHeartbeats 1000000 in
theorem short_calls {w : World} {l : List Mac} {p g cap base : Nat} {vl vr vm : Value} (h : WinO w l p g cap base vl vr vm) (i : Nat) (hi : i < l.length) (R : Ending → World → Prop)
    (hF : shortR l i = none → ∀ w', Below w.heap.size w w' → R (.returned (.bool false)) w')
    (hT : ∀ l', shortR l i = some l' → ∀ w', Below base w w' → Left w' base p l' → R (.returned (.bool true)) w') :
    Calls Tryd.prog 112 #[.pointer (some ⟨p, 0, none⟩), .int .i64 (i : Int)] w R := by
  have C := h.win.cells
  have c0 := C.c0
  have lp := C.lp
  have M := ownM_at h.own rfl hi
  have m0 := M.c0
  have m1 := M.c1
  have m2 := M.c2
  have m3 := M.c3
  have m4 := M.c4
  have lg := M.lg
  have i0 : (0 : Int) ≤ (i : Int) := by omega
  have i9 : (i : Int) < (l.length : Int) := by omega
  have hfew := h.win.ok.few
  have hbl := h.base_le
  have H := Lib.hid h
  unfold shortR at hF hT
  generalize atL l i = m at *
  clear C M h
  go_enter Tryd.func112, Tryd.ntmps112
  go_wp2_with fail
  refine jumps_calls m _ _ (fun w5 hb5 => ?_)
  have d0 := (hb5.cell (p := ⟨p, 0, none⟩) lp).trans c0
  have d4 := (hb5.cell (p := ⟨g, i * 5 + 4, none⟩) lg).trans m4
  have lp5 := Nat.lt_of_lt_of_le lp hb5.size
  have lg5 := Nat.lt_of_lt_of_le lg hb5.size
  have Hb5 := Lib.hid hb5
  clear hb5 m0 m1 m2 m3 m4 c0
  cases hj : jumpsM m
  · have HF := Lib.hid (hF (by rw [if_neg (fun h => by rw [hj] at h; cases h.1)]))
    clear hT hF hj
    go_wp2
    exact HF.out _ Hb5.out
  · by_cases en : m.n = (i : Int) + 1
    · have jn : (m.n == (i : Int) + 1) = true := by simpa using en
      have HT := Lib.hid (hT _ (by rw [if_pos ⟨hj, en⟩]))
      clear hT hF hj en
      go_wp2_with fail
      refine outW_calls (H.out.below Hb5.out) i hi _ (fun w1 hb1 hl1 => ?_)
      have H1 := Lib.hid (HT.out w1 ((Hb5.out.mono hbl).trans hb1) hl1)
      clear hb1 hl1
      go_wp2
      exact H1.out
    · have jn : (m.n == (i : Int) + 1) = false := by simpa using en
      have HF := Lib.hid (hF (by rw [if_neg (fun h => en h.2)]))
      clear hT hF hj en
      go_wp2
      exact HF.out _ Hb5.out
set_option maxHeartbeats 1000000 in
theorem vain_calls {w : World} {l : List Mac} {p g cap base : Nat} {vl vr vm : Value} (h : WinO w l p g cap base vl vr vm) (i : Nat) (hi : i < l.length) (R : Ending → World → Prop)
    (hF : vainR l i = none → ∀ w', Below w.heap.size w w' → R (.returned (.bool false)) w')
    (hT : ∀ l', vainR l i = some l' → ∀ w', Below base w w' → Left w' base p l' → R (.returned (.bool true)) w') :
    Calls Tryd.prog 114 #[.pointer (some ⟨p, 0, none⟩), .int .i64 (i : Int)] w R := by
  have C := h.win.cells
  have c0 := C.c0
  have lp := C.lp
  have M := ownM_at h.own rfl hi
  have m0 := M.c0
  have m1 := M.c1
  have m2 := M.c2
  have m3 := M.c3
  have m4 := M.c4
  have lg := M.lg
  have hm := h.win.ok.at_ hi
  have i0 : (0 : Int) ≤ (i : Int) := by omega
  have i9 : (i : Int) < (l.length : Int) := by omega
  have hbl := h.base_le
  have H := Lib.hid h
  unfold vainR at hF hT
  generalize atL l i = m at *
  obtain ⟨r, hr⟩ : ∃ r : Nat, m.dst = (r : Int) := ⟨m.dst.toNat, by have := hm.dst0; omega⟩
  have hr16 : r < 16 := by have := hm.dst1; omega
  rw [hr] at hF hT
  simp only [Int.toNat_natCast] at hF hT
  have Hr := Lib.hid hr
  clear C M h hm hr
  go_enter Tryd.func114, Tryd.ntmps114
  go_wp2_with fail
  refine quietM_calls m _ _ (fun w5 hb5 => ?_)
  have p1 : w5.cell? ⟨w.heap.size, 1, none⟩ = some (.int .i64 (r : Int)) := by rw [hb5.cell (by simp), ← Hr.out]; simp
  have hz5 : w.heap.size < w5.heap.size := by have := hb5.size; simp at this; omega
  have Hb5 := Lib.hid ((by exact bl0 : Below w.heap.size w (w.alloc (Obj.cells #[.int .i64 m.op, .int .i64 m.dst, .int .i64 m.a, .int .i64 m.b, .int .i64 m.n] 44))).trans (hb5.mono (by simp)))
  clear hb5 m0 m1 m2 m3 m4 c0
  cases hq : quietM m
  · have HF := Lib.hid (hF (by rw [if_neg (fun h => by rw [hq] at h; cases h.1)]))
    clear hT hF hq
    go_wp2
    exact HF.out _ Hb5.out
  · go_wp2_with fail
    refine behind_calls (H.out.win.below Hb5.out) i r hi hr16 _ (fun w6 hb6 => ?_)
    have Hb6 := Lib.hid (Hb5.out.trans (hb6.mono Hb5.out.size))
    clear hb6
    cases hb : behB l i r
    · have HT := Lib.hid (hT _ (by rw [if_pos ⟨hq, hb⟩]))
      clear hT hF hq hb
      go_wp2_with fail
      refine outW_calls (H.out.below Hb6.out) i hi _ (fun w1 hb1 hl1 => ?_)
      have H1 := Lib.hid (HT.out w1 ((Hb6.out.mono hbl).trans hb1) hl1)
      clear hb1 hl1
      go_wp2
      exact H1.out
    · have HF := Lib.hid (hF (by rw [if_neg (fun h => by rw [hb] at h; cases h.2)]))
      clear hT hF hq hb
      go_wp2
      exact HF.out _ Hb6.out
/-- What a function that answers a bool of an instruction, with what it captures, has to do in worlds behind w. -/
def AsksM1 (f : FuncId) (c1 : Value) (p : Mac → Bool) (w : World) : Prop :=
  Enters Tryd.prog f ∧ ∀ (x : Mac) (W : World) (R : Ending → World → Prop), Below w.heap.size w W → (∀ W', Below W.heap.size W W' → R (.returned (.bool (p x))) W') → Calls Tryd.prog f #[.agg #[.int .i64 x.op, .int .i64 x.dst, .int .i64 x.a, .int .i64 x.b, .int .i64 x.n], c1] W R
theorem anyM_take_snoc {p : Mac → Bool} {xs : List Mac} {k : Nat} (h : k < xs.length) : (xs.take (k + 1)).any p = ((xs.take k).any p || p (atL xs k)) := by
  rw [take_snoc' h, List.any_append, atL_get h]
  simp
set_option maxHeartbeats 400000 in
theorem IndexFuncM1_calls (f : FuncId) (c1 : Value) (p : Mac → Bool) (v : Value) (xs : List Mac) (w : World) (h : rpMac.SL w w.heap.size xs v) (hf : AsksM1 f c1 p w) (R : Ending → World → Prop)
    (hR : ∀ w' (r : Int), Below w.heap.size w w' → decide (0 ≤ r) = xs.any p → R (.returned (.int .i64 r)) w') :
    Calls Tryd.prog 99 #[v, .func (.func f) #[] #[c1]] w R := by
  obtain ⟨hen, hf⟩ := hf
  have hcf := hen.run
  obtain ⟨A, n, rfl, hm, _, h⟩ := h.cases_
  have Hs := Lib.hid h
  have Hf := Lib.hid hf
  have HR := Lib.hid hR
  clear h hf hR
  go_enter Tryd.func99, Tryd.ntmps99
  go_wp2
  go_loopg [8] xs.length (fun gh i wr => ∃ k : Nat, k ≤ xs.length ∧ gh = xs.length - k ∧ i = .int .i64 k ∧ (xs.take k).any p = false ∧ Below w.heap.size w wr)
  case atStart => exact ⟨0, Nat.zero_le _, rfl, rfl, rfl, Below.refl _ _⟩
  case round =>
    obtain ⟨k, hk, rfl, rfl, ht, hbel⟩ := hrel
    have Ht := Lib.hid ht
    have Hb := Lib.hid hbel
    have hz := hbel.size
    clear ht
    by_cases hlt : k < xs.length
    · obtain ⟨b, off, m, rfl, hb, e, q0, q1, q2, q3, q4⟩ := Hs.out.mac_at hlt
      have em : atL xs k = m := by
        rw [atL_get hlt]
        rw [List.getElem?_eq_getElem hlt] at e
        exact Option.some.inj e
      have p0 := (hbel.cell (p := ⟨b, off + k * 5, none⟩) hb).trans q0
      have p1 := (hbel.cell (p := ⟨b, off + k * 5 + 1, none⟩) hb).trans q1
      have p2 := (hbel.cell (p := ⟨b, off + k * 5 + 2, none⟩) hb).trans q2
      have p3 := (hbel.cell (p := ⟨b, off + k * 5 + 3, none⟩) hb).trans q3
      have p4 := (hbel.cell (p := ⟨b, off + k * 5 + 4, none⟩) hb).trans q4
      have hst := anyM_take_snoc (p := p) hlt
      rw [em] at hst
      have Hst := Lib.hid hst
      have Hx := Lib.hid (Hf.out m)
      have i1 : (k : Int) < (xs.length : Int) := by omega
      have i2 : (0 : Int) ≤ (k : Int) := by omega
      clear q0 q1 q2 q3 q4 hbel e em hst
      go_wp2_with fail
      refine Hx.out _ _ Hb.out ?_
      intro w1 hb1
      have Hb1 := Lib.hid (Hb.out.trans (hb1.mono hz))
      clear hb1
      cases hp : p m
      · have Hst2 := Lib.hid (show (xs.take (k + 1)).any p = false by rw [Hst.out, Ht.out, hp]; rfl)
        clear hp
        go_wp2
        go_roundg (xs.length - (k + 1))
        case measure => omega
        case rel => exact ⟨k + 1, by omega, rfl, by go_num, Hst2.out, Hb1.out⟩
      · have hany : xs.any p = true := by
          have h1 : (xs.take (k + 1)).any p = true := by rw [Hst.out, hp]; simp
          rw [List.any_eq_true] at h1 ⊢
          obtain ⟨y, hy, h2⟩ := h1
          exact ⟨y, List.mem_of_mem_take hy, h2⟩
        have H1 := Lib.hid (HR.out w1 (k : Int) Hb1.out (by rw [hany]; simp))
        clear hany hp
        go_wp2
        exact H1.out
    · obtain rfl : k = xs.length := by omega
      rw [List.take_length] at Ht
      have H1 := Lib.hid (HR.out wr (-1) Hb.out (by rw [Ht.out]; rfl))
      go_wp2
      exact H1.out
set_option maxHeartbeats 400000 in
theorem ContainsFuncM1_calls (f : FuncId) (c1 : Value) (p : Mac → Bool) (v : Value) (xs : List Mac) (w : World) (h : rpMac.SL w w.heap.size xs v) (hf : AsksM1 f c1 p w) (R : Ending → World → Prop)
    (hR : ∀ w', Below w.heap.size w w' → R (.returned (.bool (xs.any p))) w') :
    Calls Tryd.prog 78 #[v, .func (.func f) #[] #[c1]] w R := by
  have HR := Lib.hid hR
  clear hR
  go_enter Tryd.func78, Tryd.ntmps78
  go_wp2_with fail
  refine IndexFuncM1_calls f c1 p v xs _ h hf _ (fun w1 r hb1 hr => ?_)
  have Hr := Lib.hid hr
  have H1 := Lib.hid (HR.out w1 hb1)
  clear hr hb1 h hf
  go_wp2
  rw [Hr.out]
  exact H1.out
set_option maxHeartbeats 400000 in
theorem unread1_calls (x : Mac) (n : Int) (G : Nat) (w : World) (hG : w.cell? ⟨G, 4, none⟩ = some (.int .i64 n)) (R : Ending → World → Prop) (hR : ∀ w', Below w.heap.size w w' → R (.returned (.bool (decide (x.op = 35) && decide (x.n = n)))) w') :
    Calls Tryd.prog 148 #[.agg #[.int .i64 x.op, .int .i64 x.dst, .int .i64 x.a, .int .i64 x.b, .int .i64 x.n], .pointer (some ⟨G, 0, none⟩)] w R := by
  have hl := World.block_lt_of_cell? w _ hG
  have e2 : decide (x.n = n) = (x.n == n) := by rw [Bool.eq_iff_iff]; simp
  rw [e2] at hR
  by_cases h35 : x.op = 35
  · have j35 : (x.op == 35) = true := by simpa using h35
    rw [decide_eq_true h35, Bool.true_and] at hR
    have HR := Lib.hid hR
    clear hR h35 e2
    go_enter Tryd.func148, Tryd.ntmps148
    go_wp2
    exact HR.out _ bl0
  · have j35 : (x.op == 35) = false := by simpa using h35
    rw [decide_eq_false h35, Bool.false_and] at hR
    have HR := Lib.hid hR
    clear hR h35 e2
    go_enter Tryd.func148, Tryd.ntmps148
    go_wp2
    exact HR.out _ bl0
set_option maxHeartbeats 1000000 in
theorem unread_calls {w : World} {l : List Mac} {p g cap base : Nat} {vl vr vm : Value} (h : WinO w l p g cap base vl vr vm) (i : Nat) (hi : i < l.length) (R : Ending → World → Prop)
    (hF : unreadR l i = none → ∀ w', Below w.heap.size w w' → R (.returned (.bool false)) w')
    (hT : ∀ l', unreadR l i = some l' → ∀ w', Below base w w' → Left w' base p l' → R (.returned (.bool true)) w') :
    Calls Tryd.prog 115 #[.pointer (some ⟨p, 0, none⟩), .int .i64 (i : Int)] w R := by
  have C := h.win.cells
  have c0 := C.c0
  have lp := C.lp
  have M := ownM_at h.own rfl hi
  have m0 := M.c0
  have m1 := M.c1
  have m2 := M.c2
  have m3 := M.c3
  have m4 := M.c4
  have lg := M.lg
  have i0 : (0 : Int) ≤ (i : Int) := by omega
  have i9 : (i : Int) < (l.length : Int) := by omega
  have hbl := h.base_le
  have H := Lib.hid h
  unfold unreadR at hF hT
  generalize atL l i = m at *
  have hen : Enters Tryd.prog 148 := ⟨_, Tryd.func148, by kernel_rfl, rfl⟩
  clear C M h
  by_cases e36 : m.op = 36
  · have j36 : (m.op == 36) = true := by simpa using e36
    have E36 := Lib.hid e36
    clear e36
    go_enter Tryd.func115, Tryd.ntmps115
    go_wp2_with fail
    have hbA : Below w.heap.size w (w.alloc (Obj.cells #[.int .i64 m.op, .int .i64 m.dst, .int .i64 m.a, .int .i64 m.b, .int .i64 m.n] 44)) := bl0
    have hG : (w.alloc (Obj.cells #[.int .i64 m.op, .int .i64 m.dst, .int .i64 m.a, .int .i64 m.b, .int .i64 m.n] 44)).cell? ⟨w.heap.size, 4, none⟩ = some (.int .i64 m.n) := by simp
    refine ContainsFuncM1_calls 148 (.pointer (some ⟨w.heap.size, 0, none⟩)) (fun o => decide (o.op = 35) && decide (o.n = m.n)) _ l _ (H.out.win.below hbA).code ⟨hen, fun x W R' hbW hR' => unread1_calls x m.n w.heap.size W ((hbW.cell (by simp)).trans hG) R' hR'⟩ _ (fun w6 hb6 => ?_)
    have Hb6 := Lib.hid (hbA.trans (hb6.mono (by simp)))
    have hge : (l.any fun o => decide (o.op = 35) && decide (o.n = m.n)) = getB l m.n := rfl
    rw [hge]
    clear hb6 hG hbA hge m0 m1 m2 m3 m4 c0
    cases hb : getB l m.n
    · have HT := Lib.hid (hT _ (by rw [if_pos ⟨E36.out, hb⟩]))
      clear hT hF hb
      go_wp2_with fail
      refine outW_calls (H.out.below Hb6.out) i hi _ (fun w1 hb1 hl1 => ?_)
      have H1 := Lib.hid (HT.out w1 ((Hb6.out.mono hbl).trans hb1) hl1)
      clear hb1 hl1
      go_wp2
      exact H1.out
    · have HF := Lib.hid (hF (by rw [if_neg (fun h => by rw [hb] at h; cases h.2)]))
      clear hT hF hb
      go_wp2
      exact HF.out _ Hb6.out
  · have j36 : (m.op == 36) = false := by simpa using e36
    have HF := Lib.hid (hF (by rw [if_neg (fun h => e36 h.1)]))
    clear hT hF e36
    go_enter Tryd.func115, Tryd.ntmps115
    go_wp2
    exact HF.out _ bl0
end Go.Proofs.YtkcmijnaheapdaaDoor
