/- What the reference takes out of bytes, plainly: just what the program reads. The reference's taker: its numbers, small ones, texts. A list that is built in a field of a variable while a taker goes on. ObjectOf, as the document says it: an object out of its bytes. -/
import Derived.Test.YtfhnmbnniklmiaaDoorLoadP
import Derived.Test.YtfhnmbnniklmiaaDoorBase
import Derived.Test.YtfhnmbnniklmiaaDoorRows
import Derived.IntWalk
import Derived.Deep.LoopGhost
import Derived.Outline
import Derived.Lib.ConvBytes
import Derived.Test.YtfhnmbnniklmiaaDoorRefA
import Derived.Test.YtfhnmbnniklmiaaDoorLoadA
import Derived.Deep.CutBlock
import Derived.Deep.DeepCutAuto
/- What the reference takes out of bytes, plainly: just what the program reads. -/
namespace Go.Proofs.YtfhnmbnniklmiaaDoor
open Go.RowKit
set_option linter.unusedSimpArgs false
set_option linter.unusedVariables false

/-- A text as the reference takes it. -/
def textR : Prs ByteArray := fun bs => (smallL bs).bind fun x => if x.1 ≤ x.2.length then some (strL (x.2.take x.1), x.2.drop x.1) else none
/-- A list as the reference takes it. -/
def listR {α : Type} (one : Prs α) : Prs (List α) := fun bs => (smallL bs).bind fun x => timesL one x.1 x.2
theorem textR_eq {bs : List UInt8} (h : bs.length ≤ 90000) : textR bs = textL bs := by
  unfold textR textL smallL manyL
  cases hn : numberL bs with
  | none => rfl
  | some x =>
    have hs := numberL_short _ _ _ (show numberL bs = some (x.1, x.2) from hn)
    simp only [Option.bind_some]
    by_cases h1 : x.1 ≤ x.2.length
    · rw [if_pos h1, if_pos (by omega)]
      simp [h1]
    · rw [if_neg h1]
      by_cases h2 : x.1 ≤ 90000
      · rw [if_pos h2]
        simp [h1]
      · rw [if_neg h2]
        rfl
theorem listR_eq {α : Type} {one : Prs α} (hone : Short one) {bs : List UInt8} (h : bs.length ≤ 90000) : listR one bs = listL one bs := by
  unfold listR listL smallL manyL
  cases hn : numberL bs with
  | none => rfl
  | some x =>
    have hs := numberL_short _ _ _ (show numberL bs = some (x.1, x.2) from hn)
    simp only [Option.bind_some]
    by_cases h1 : x.1 ≤ x.2.length
    · rw [if_pos h1, if_pos (by omega)]
    · rw [if_neg h1]
      by_cases h2 : x.1 ≤ 90000
      · rw [if_pos h2]
        simp only [Option.bind_some, Option.bind_none]
        cases ht : timesL one x.1 x.2 with
        | none => rfl
        | some y =>
          have := timesL_short hone _ _ _ _ (show timesL one x.1 x.2 = some (y.1, y.2) from ht)
          omega
      · rw [if_neg h2]
/-- What a step has read is at the place behind it. -/
theorem drop_of_suffix {bs r : List UInt8} (h : r = bs.drop (bs.length - r.length)) : ∃ k, r = bs.drop k ∧ k ≤ bs.length := ⟨_, h, by omega⟩
end Go.Proofs.YtfhnmbnniklmiaaDoor

/- The reference's taker: its numbers, small ones, texts. -/
namespace Go.Proofs.YtfhnmbnniklmiaaDoor
open Go.RowKit
set_option linter.unusedSimpArgs false
set_option linter.unusedVariables false

/-- A taker lies in block p: the bytes, the place, and whether something did not stand there. -/
def Tk (w : World) (p : Nat) (bs : List UInt8) (k : Nat) (bad : Bool) : Prop := ∃ v T, w.heap[p]? = some (.cells #[v, .int .i64 (k : Int), .bool bad] T (0, 0)) ∧ rpByte.SL w p bs v ∧ k ≤ bs.length
theorem Tk.lt {w : World} {p k : Nat} {bs : List UInt8} {bad : Bool} (h : Tk w p bs k bad) : p < w.heap.size := by
  obtain ⟨v, T, h, _⟩ := h
  exact (Array.getElem?_eq_some_iff.1 h).1
theorem Tk.le {w : World} {p k : Nat} {bs : List UInt8} {bad : Bool} (h : Tk w p bs k bad) : k ≤ bs.length := by
  obtain ⟨v, T, _, _, h⟩ := h
  exact h
theorem Tk.other {w w' : World} {p k : Nat} {bs : List UInt8} {bad : Bool} (h : Tk w p bs k bad) (hb : Below w.heap.size w w') : Tk w' p bs k bad := by
  have hl := h.lt
  obtain ⟨v, T, h1, h2, h3⟩ := h
  exact ⟨v, T, (hb.block p hl).trans h1, h2.keep fun q hq => hb.cell (by omega), h3⟩
theorem tk_far {w w' : World} {p b k : Nat} {bs : List UInt8} {bad : Bool} (h : Tk w p bs k bad) (hg : w.grownBy w' (some b)) (hb : p < b) : Tk w' p bs k bad := by
  have hl := h.lt
  obtain ⟨v, T, h1, h2, h3⟩ := h
  exact ⟨v, T, (hg.block p hl (by intro e; injection e with e; omega)).trans h1, h2.keep fun q hq => World.cell?_of_block (hg.block _ (by omega) (by intro e; injection e with e; omega)), h3⟩
theorem cells3_of_block {w : World} {p : Nat} {u v x : Value} {T : TypeId} (h : w.heap[p]? = some (.cells #[u, v, x] T (0, 0))) : w.cell? ⟨p, 0, none⟩ = some u ∧ w.cell? ⟨p, 1, none⟩ = some v ∧ w.cell? ⟨p, 2, none⟩ = some x ∧ w.frozen? ⟨p, 0, none⟩ = false ∧ w.frozen? ⟨p, 1, none⟩ = false ∧ w.frozen? ⟨p, 2, none⟩ = false := by
  refine ⟨?_, ?_, ?_, ?_, ?_, ?_⟩ <;> simp [World.cell?, World.frozen?, h]
theorem Tk.step {w : World} {p k k' : Nat} {bs : List UInt8} {bad : Bool} (h : Tk w p bs k bad) (hk : k' ≤ bs.length) {x : Int} (hx : x = (k' : Int)) : Tk (w.setCell ⟨p, 1, none⟩ (.int .i64 x)) p bs k' bad := by
  have hl := h.lt
  obtain ⟨v, T, h1, h2, h3⟩ := h
  subst hx
  exact ⟨v, T, by rw [block_set h1]; rfl, SL_grown h2 (grown_setCell w ⟨p, 1, none⟩ _) (by omega), hk⟩
theorem Tk.fell {w : World} {p k : Nat} {bs : List UInt8} {bad : Bool} (h : Tk w p bs k bad) : Tk (w.setCell ⟨p, 2, none⟩ (.bool true)) p bs k true := by
  have hl := h.lt
  obtain ⟨v, T, h1, h2, h3⟩ := h
  exact ⟨v, T, by rw [block_set h1]; rfl, SL_grown h2 (grown_setCell w ⟨p, 2, none⟩ _) (by omega), h3⟩

set_option maxRecDepth 100000 in
set_option maxHeartbeats 4000000 in
theorem tNumber_any (p : Nat) (bs : List UInt8) (k : Nat) (bad : Bool) (w : World) (h : Tk w p bs k bad) (hlen : bs.length ≤ 100000) (R : Ending → World → Prop)
    (hR : ∀ (n k' : Nat) (q : Bool), n < 18446744073709551616 → (q = false → bad = false ∧ numberL (bs.drop k) = some (n, bs.drop k')) → (q = true → bad = true ∨ numberL (bs.drop k) = none) → ∀ w', w.grownBy w' (some p) → Tk w' p bs k' q → R (.returned (.int .u64 (n : Nat))) w') :
    Calls Tryd.prog 82 #[.pointer (some ⟨p, 0, none⟩)] w R := by
  have HR := Lib.hid hR
  have Htk := Lib.hid h
  clear hR h
  go_enter Tryd.func82, Tryd.ntmps82
  go_wp2
  go_loopg [3, 4, 5] 10 (fun g n s b wr => ∃ (i acc j : Nat), i ≤ 9 ∧ g = 10 - i ∧ n = .int .u64 (acc : Int) ∧ s = .int .i64 (i : Int) ∧ acc < 2 ^ (7 * i) ∧ acc < 18446744073709551616 ∧ j = k + i ∧ Tk wr p bs j bad ∧ numL (10 - i) i acc (bs.drop j) = numberL (bs.drop k) ∧ w.grownBy wr (some p))
  case atStart => exact ⟨0, 0, k, by omega, rfl, rfl, rfl, by omega, by omega, rfl, Htk.out, rfl, grown_refl _ _⟩
  case round =>
    obtain ⟨i, acc, j, hi, rfl, rfl, rfl, ha, ha2, hj, htk, hq, hgr⟩ := hrel
    have hpl := htk.lt
    have hjl := htk.le
    obtain ⟨v, T, hblk, hs, _⟩ := id htk
    obtain ⟨c0, c1, c2, z0, z1, z2⟩ := cells3_of_block hblk
    obtain ⟨A, c, rfl, hm, hcap, hs⟩ := hs.cases_
    have Ha := Lib.hid ha
    have Htk1 := Lib.hid htk
    have Hgr := Lib.hid hgr
    have Hj := Lib.hid hj
    have i0 : (0 : Int) ≤ (i : Int) := Int.natCast_nonneg _
    have j0 : (0 : Int) ≤ (j : Int) := Int.natCast_nonneg _
    have j9 : (j : Int) ≤ 100000 := by omega
    have i1 : (i : Int) < 10 := by omega
    clear ha htk hgr hj hblk
    have HF : Hid (∀ (k' : Nat) (wx : World), numberL (bs.drop k) = none → wr.grownBy wx (some p) → Tk wx p bs k' bad → R (.returned (.int .u64 0)) (wx.setCell ⟨p, 2, none⟩ (.bool true))) := Lib.hid fun k' wx hno hg ht =>
      HR.out 0 k' true (by decide) (fun h => by cases h) (fun _ => .inr hno) _ (grown_trans (grown_trans Hgr.out hg) (grown_setCell wx ⟨p, 2, none⟩ _)) ht.fell
    by_cases hlt : j < bs.length
    · obtain ⟨g, off, rfl, hg, q0⟩ := hs.byte_at hlt
      have hstep := drop_cons hlt
      rw [hstep, numL_step (by omega)] at hq
      have hx2 := (bs[j]).toNat_lt
      generalize (bs[j]).toNat = x at *
      have i2 : (j : Int) < (bs.length : Int) := by omega
      have x0 : (0 : Int) ≤ (x : Int) := Int.natCast_nonneg _
      have x1 : (x : Int) < 256 := by omega
      have hw2 : IntKind.i64.wrap ((j : Int) + 1) = (j : Int) + 1 := IntWalk.i64_in _ (by omega)
      have hg2 : ∀ n, wr.grownBy ((wr.drewN n).setCell ⟨p, 1, none⟩ (.int .i64 ((j : Int) + 1))) (some p) := fun n => grown_trans (grown_of_below (below_drewN (Below.refl wr.heap.size wr) n) _) (grown_setCell (wr.drewN n) ⟨p, 1, none⟩ (.int .i64 ((j : Int) + 1)))
      have ht2 : ∀ n, Tk ((wr.drewN n).setCell ⟨p, 1, none⟩ (.int .i64 ((j : Int) + 1))) p bs (j + 1) bad := fun n => (Htk1.out.other (below_drewN (Below.refl wr.heap.size wr) n)).step (k' := j + 1) (by omega) (x := (j : Int) + 1) (by omega)
      have Hg2 := Lib.hid hg2
      have Ht2 := Lib.hid ht2
      clear hs hg2 ht2
      by_cases h9 : i = 9 ∧ 1 < x
      · have hfin := fun n => HF.out (j + 1) _ (by rw [← hq, if_pos (.inl h9)]) (Hg2.out n) (Ht2.out n)
        have Hfin := Lib.hid hfin
        obtain ⟨rfl, h9⟩ := h9
        have x2 : (1 : Int) < (x : Int) := by omega
        clear hfin hstep hq HF
        go_wp2
        go_quiet (fail)
        go_wp2
        go_quiet (fail)
        go_wp2
        exact Hfin.out _
      by_cases hz : x = 0 ∧ 0 < i
      · have hfin := fun n => HF.out (j + 1) _ (by rw [← hq, if_pos (.inr ⟨hz.2, hz.1⟩)]) (Hg2.out n) (Ht2.out n)
        have Hfin := Lib.hid hfin
        obtain ⟨rfl, hz⟩ := hz
        have i3 : (0 : Int) < (i : Int) := by omega
        clear hfin hstep hq h9 HF
        by_cases hi9 : i = 9
        · subst hi9
          go_wp2
          go_quiet (fail)
          go_wp2
          go_quiet (fail)
          go_wp2
          all_goals first | exact Hfin.out _ | (exfalso; omega)
        · have n9 : ((i : Int) == 9) = false := by simp; omega
          clear hi9
          go_wp2
          go_quiet (fail)
          go_wp2
          go_quiet (fail)
          go_wp2
          all_goals first | exact Hfin.out _ | (exfalso; omega)
      have h9' : i = 9 → x < 2 := by omega
      by_cases hx128 : x < 128
      · have hf := acc_fits (x := x) (i := i) (by omega) Ha.out hx128 h9'
        have hxi : (x : Int) < 128 := by omega
        rw [if_neg (by omega), if_pos hx128] at hq
        have hfin : Hid (∀ (nn : Nat) (a : Int), a = ((acc + x * 2 ^ (7 * i) : Nat) : Int) → R (.returned (.int .u64 a)) ((wr.drewN nn).setCell ⟨p, 1, none⟩ (.int .i64 ((j : Int) + 1)))) := Lib.hid fun nn a ha => by
          subst ha
          exact HR.out _ (j + 1) bad hf.2 (fun h => ⟨h, hq.symm⟩) (fun h => .inl h) _ (grown_trans Hgr.out (Hg2.out nn)) (Ht2.out nn)
        have he : Hid (IntKind.u64.wrap ((acc : Int) + IntKind.u64.wrap ((x : Int) % 128 * 2 ^ (7 * i))) = ((acc + x * 2 ^ (7 * i) : Nat) : Int)) := Lib.hid (by
          rw [show ((x : Int) % 128 * 2 ^ (7 * i)) = ((x * 2 ^ (7 * i) : Nat) : Int) from by push_cast; rw [show (x : Int) % 128 = x from by omega]]
          rw [IntKind.wrap_u64, IntKind.wrap_u64]
          omega)
        by_cases hi9 : i = 9
        · subst hi9
          obtain rfl : x = 1 := by omega
          clear hz hf hq h9 h9' hstep hx128 HF
          go_wp2
          go_quiet (fail)
          go_wp2
          go_quiet (fail)
          go_wp2
          all_goals first
          | exact hfin.out _ _ (by rw [IntKind.wrap_u64]; have := Ha.out; simp at this ⊢; omega)
          | (exfalso; omega)
        · have n9 : ((i : Int) == 9) = false := by simp; omega
          have Hz := Lib.hid hz
          clear hf hq h9 h9' hstep hx128 hi9 HF
          rcases Nat.eq_zero_or_pos i with h0 | h0
          · have i00 : ¬ (0 : Int) < (i : Int) := by omega
            clear hz h0
            go_wp2
            go_quiet (fail)
            go_wp2
            go_quiet (fail)
            go_wp2
            all_goals first | exact hfin.out _ _ he.out | exact hfin.out _ _ (by rw [show (x : Int) % 128 = x from by omega]; push_cast; rfl)
          · have i00 : (0 : Int) < (i : Int) := by omega
            have xz : ((x : Int) == 0) = false := by simp; omega
            clear hz h0
            go_wp2
            go_quiet (fail)
            go_wp2
            go_quiet (fail)
            go_wp2
            all_goals first | exact hfin.out _ _ he.out | exact hfin.out _ _ (by rw [show (x : Int) % 128 = x from by omega]; push_cast; rfl)
      · have hf := acc_fits (x := x % 128) (i := i) (by omega) Ha.out (Nat.mod_lt _ (by decide)) (by omega)
        have hxi : ¬ (x : Int) < 128 := by omega
        have n9 : ((i : Int) == 9) = false := by simp; omega
        rw [if_neg (by omega), if_neg hx128, show x - 128 = x % 128 from by omega] at hq
        have he : Hid (IntKind.u64.wrap ((acc : Int) + IntKind.u64.wrap ((x : Int) % 128 * 2 ^ (7 * i))) = ((acc + x % 128 * 2 ^ (7 * i) : Nat) : Int)) := Lib.hid (by
          rw [show ((x : Int) % 128 * 2 ^ (7 * i)) = ((x % 128 * 2 ^ (7 * i) : Nat) : Int) from by push_cast; rfl]
          rw [IntKind.wrap_u64, IntKind.wrap_u64]
          omega)
        have Hf := Lib.hid hf
        have Hq := Lib.hid hq
        have Hi := Lib.hid (show i < 9 by omega)
        have xz : ((x : Int) == 0) = false := by simp; omega
        clear hz hf hq h9 h9' hstep hx128 HF
        rcases Nat.eq_zero_or_pos i with h0 | h0
        · have i00 : ¬ (0 : Int) < (i : Int) := by omega
          clear h0
          go_wp2
          go_quiet (fail)
          go_wp2
          go_quiet (fail)
          go_wp2
          go_roundg (10 - (i + 1))
          case measure => have := Hi.out; omega
          case rel => exact ⟨i + 1, _, j + 1, Hi.out, rfl, by rw [← he.out], by go_num, Hf.out.1, Hf.out.2, by have := Hj.out; omega, Ht2.out _, Hq.out, grown_trans Hgr.out (Hg2.out _)⟩
        · have i00 : (0 : Int) < (i : Int) := by omega
          clear h0
          go_wp2
          go_quiet (fail)
          go_wp2
          go_quiet (fail)
          go_wp2
          go_roundg (10 - (i + 1))
          case measure => have := Hi.out; omega
          case rel => exact ⟨i + 1, _, j + 1, Hi.out, rfl, by rw [← he.out], by go_num, Hf.out.1, Hf.out.2, by have := Hj.out; omega, Ht2.out _, Hq.out, grown_trans Hgr.out (Hg2.out _)⟩
    · have hfin := fun n => HF.out j (wr.drewN n) (by rw [← hq, List.drop_eq_nil_of_le (by omega), numL_nil (by omega)]) (grown_of_below (below_drewN (Below.refl wr.heap.size wr) n) _) (Htk1.out.other (below_drewN (Below.refl wr.heap.size wr) n))
      have Hfin := Lib.hid hfin
      have i2 : ¬ (j : Int) < (bs.length : Int) := by omega
      have i3 : (bs.length : Int) ≤ (j : Int) := by omega
      clear hfin hq HF hs
      go_wp2
      go_quiet (fail)
      go_wp2
      exact Hfin.out _

set_option maxRecDepth 100000 in
set_option maxHeartbeats 4000000 in
theorem tSmall_any (p : Nat) (bs : List UInt8) (k : Nat) (bad : Bool) (w : World) (h : Tk w p bs k bad) (hlen : bs.length ≤ 100000) (R : Ending → World → Prop)
    (hR : ∀ (n k' : Nat) (q : Bool), n ≤ 90000 → (q = false → bad = false ∧ smallL (bs.drop k) = some (n, bs.drop k')) → (q = true → bad = true ∨ smallL (bs.drop k) = none) → ∀ w', w.grownBy w' (some p) → Tk w' p bs k' q → R (.returned (.int .i64 (n : Nat))) w') :
    Calls Tryd.prog 50 #[.pointer (some ⟨p, 0, none⟩)] w R := by
  have HR := Lib.hid hR
  have Htk := Lib.hid h
  clear hR h
  go_enter Tryd.func50, Tryd.ntmps50
  go_wp2_with fail
  refine tNumber_any p bs k bad _ Htk.out hlen _ (fun n k1 q1 hn hq0 hq1 w1 hg1 ht1 => ?_)
  have hlt := ht1.lt
  obtain ⟨v, T, hblk, _, _⟩ := id ht1
  obtain ⟨c0, c1, c2, z0, z1, z2⟩ := cells3_of_block hblk
  have i0 : (0 : Int) ≤ (n : Int) := by omega
  have i1 : (n : Int) ≤ 18446744073709551615 := by omega
  by_cases hle : n ≤ 90000
  · have hgo := HR.out n k1 q1 hle (fun hq => ⟨(hq0 hq).1, smallL_some.2 ⟨(hq0 hq).2, hle⟩⟩) (fun hq => by
      rcases hq1 hq with h | h
      · exact .inl h
      · right
        unfold smallL
        rw [h]
        rfl) w1 hg1 ht1
    have Hgo := Lib.hid hgo
    have hli : ¬ (90000 : Int) < (n : Int) := by omega
    clear hblk ht1 hg1 hgo hq0 hq1
    go_wp2
    exact Hgo.out
  · have hgo := HR.out 0 k1 true (by decide) (fun h => by cases h) (fun _ => by
      cases q1 with
      | true =>
        rcases hq1 rfl with h | h
        · exact .inl h
        · right
          unfold smallL
          rw [h]
          rfl
      | false =>
        right
        unfold smallL
        rw [(hq0 rfl).2]
        simp [hle]) (w1.setCell ⟨p, 2, none⟩ (.bool true)) (grown_trans hg1 (grown_setCell w1 ⟨p, 2, none⟩ _)) ht1.fell
    have Hgo := Lib.hid hgo
    have hli : (90000 : Int) < (n : Int) := by omega
    clear hblk ht1 hg1 hgo hq0 hq1
    go_wp2
    exact Hgo.out

set_option maxRecDepth 100000 in
set_option maxHeartbeats 4000000 in
theorem tText_few (p : Nat) (bs : List UInt8) (k : Nat) (bad : Bool) (w : World) (h : Tk w p bs k bad) (hlen : bs.length ≤ 90000) (R : Ending → World → Prop)
    (hR : ∀ (s : ByteArray) (k' : Nat) (q : Bool), s.size ≤ 90000 → (q = false → bad = false ∧ textL (bs.drop k) = some (s, bs.drop k')) → (q = true → bad = true ∨ textL (bs.drop k) = none) → ∀ w', w.grownBy w' (some p) → Tk w' p bs k' q → R (.returned (.string s)) w') :
    Calls Tryd.prog 51 #[.pointer (some ⟨p, 0, none⟩)] w R := by
  have HR := Lib.hid hR
  have Htk := Lib.hid h
  clear hR h
  go_enter Tryd.func51, Tryd.ntmps51
  go_wp2_with fail
  refine tSmall_any p bs k bad _ Htk.out (by omega) _ (fun n k1 q1 hn hq0 hq1 w1 hg1 ht1 => ?_)
  have hlt := ht1.lt
  have hk1 := ht1.le
  obtain ⟨v, T, hblk, hs, _⟩ := id ht1
  obtain ⟨c0, c1, c2, z0, z1, z2⟩ := cells3_of_block hblk
  obtain ⟨A, c, rfl, hm, hcap, hs⟩ := hs.cases_
  have i0 : (0 : Int) ≤ (n : Int) := by omega
  have i1 : (n : Int) ≤ 90000 := by omega
  have j0 : (0 : Int) ≤ (k1 : Int) := by omega
  have j1 : (k1 : Int) ≤ 100000 := by omega
  have e1 : (bs.drop k1).length = bs.length - k1 := List.length_drop
  have hw : IntKind.i64.wrap ((k1 : Int) + (n : Int)) = (k1 : Int) + (n : Int) := IntWalk.i64_in _ (by omega)
  by_cases hle : k1 + n ≤ bs.length
  · have hgo : ∀ w', w1.grownBy w' (some p) → Tk w' p bs (k1 + n) q1 → R (.returned (.string (strL ((bs.drop k1).take n)))) w' := fun w' hg ht =>
      HR.out _ (k1 + n) q1 (by rw [strL_size, List.length_take]; omega) (fun hq => ⟨(hq0 hq).1, by
        rw [← textR_eq (by rw [List.length_drop]; omega)]
        unfold textR
        rw [(hq0 hq).2]
        simp only [Option.bind_some]
        rw [if_pos (by omega), List.drop_drop]⟩) (fun hq => by
        rcases hq1 hq with h | h
        · exact .inl h
        · right
          rw [← textR_eq (by rw [List.length_drop]; omega)]
          unfold textR
          rw [h]
          rfl) w' (grown_trans hg1 hg) ht
    have Hgo := Lib.hid hgo
    have Ht1 := Lib.hid ht1
    have hfin := fun nn => Hgo.out ((w1.drewN nn).setCell ⟨p, 1, none⟩ (.int .i64 ((k1 : Int) + (n : Int)))) (grown_trans (grown_of_below (below_drewN (Below.refl w1.heap.size w1) nn) _) (grown_setCell (w1.drewN nn) ⟨p, 1, none⟩ (.int .i64 ((k1 : Int) + (n : Int))))) ((Ht1.out.other (below_drewN (Below.refl w1.heap.size w1) nn)).step (by omega) (by omega))
    have Hfin := Lib.hid hfin
    have hli : ¬ (bs.length : Int) < (k1 : Int) + (n : Int) := by omega
    have i3 : (k1 : Int) + (n : Int) ≤ (c : Int) := by omega
    have i4 : (k1 : Int) ≤ (k1 : Int) + (n : Int) := by omega
    have i5 : (k1 : Int) ≤ (c : Int) := by omega
    have i6 : (0 : Int) ≤ (k1 : Int) + (n : Int) := by omega
    have i7 : ((k1 : Int) + (n : Int)).toNat = k1 + n := by omega
    have Hs := Lib.hid hs
    clear hblk hs ht1 hg1 hgo hq0 hq1 hfin Hgo
    have hcn : ∀ (wx : World) (v : Value), rpByte.SL wx p ((bs.drop k1).take n) v → (convert 39 9 v).run Tryd.prog wx = .ok (.string (strL ((bs.drop k1).take n))) wx := fun wx v h => conv_bytes (P := Tryd.prog) Tryd.underlying39 Tryd.underlying5 Tryd.underlying9 h
    have Hcn := Lib.hid hcn
    clear hcn
    cases A with
    | none =>
      obtain ⟨rfl, rfl, rfl⟩ : bs = [] ∧ n = 0 ∧ k1 = 0 := by
        have hr0 : bs.length = 0 := by
          rcases Nat.eq_zero_or_pos bs.length with h0 | hp
          · exact h0
          · obtain ⟨b, off, _, hA, _⟩ := Hs.out.at_ (List.getElem?_eq_getElem hp)
            cases hA
        exact ⟨List.eq_nil_of_length_eq_zero hr0, by omega, by omega⟩
      have Hcv : Hid (∀ nn mm : Nat, (convert 39 9 (.slice none 0 c)).run Tryd.prog ((w1.drewN mm).drewN nn) = .ok (.string (strL (([] : List UInt8).drop 0 |>.take 0))) ((w1.drewN mm).drewN nn)) := Lib.hid fun nn mm => Hcn.out _ _ ⟨none, c, rfl, Nat.zero_le _, Nat.zero_le _, fun h => absurd h (Nat.lt_irrefl 0)⟩
      go_wp2
      go_quiet (fail)
      go_wp2
      refine wp_region_quiet_lit (by kernel_rfl) (by kernel_rfl) ?_
      iterate 15 go_big_quiet_step (fail)
      go_big_quiet_want
      refine quiet_conv (v := .slice none 0 c) rfl rfl (fun nn => Hcv.out nn _) ?_
      simp only [Act.put, List.setIfInBounds_toArray, List.set_cons_succ, List.set_cons_zero]
      go_big_quiet_on
      repeat (go_big_quiet_step (fail))
      refine wpQuiet_nil ?_
      intro _ hw'
      obtain ⟨nq, hw''⟩ := hw'
      subst hw''
      go_wp2
      exact Hfin.out _
    | some a =>
      have hSL : Hid (∀ (wx : World) (o : Addr), Below w1.heap.size w1 wx → (k1 < k1 + n → o = a.add k1) → rpByte.SL wx p ((bs.drop k1).take n) (.slice (some o) n (c - k1))) := Lib.hid fun wx o hb h' => by
        have h0 := Hs.out.keep (w' := wx) (fun q hq => hb.cell (by omega))
        have h1 := h0.take_ (k := k1 + n) hle
        have h2 := bytes_drop h1 (k := k1) (by rw [List.length_take]; omega) o (by
          intro hx
          apply h'
          rw [List.length_take] at hx
          omega)
        rw [List.drop_take, show k1 + n - k1 = n from by omega] at h2
        exact h2
      by_cases hck : c = k1
      · obtain rfl : n = 0 := by omega
        have Hcv : Hid (∀ nn : Nat, ∀ mm : Nat, (convert 39 9 (.slice (some a) 0 0)).run Tryd.prog ((w1.drewN mm).drewN nn) = .ok (.string (strL ((bs.drop k1).take 0))) ((w1.drewN mm).drewN nn)) := Lib.hid fun nn mm => Hcn.out _ _ (by
          have := hSL.out ((w1.drewN mm).drewN nn) a (below_drewN (below_drewN (Below.refl _ _) mm) nn) (fun h => by omega)
          rwa [hck, Nat.sub_self] at this)
        clear hSL Hcn
        subst hck
        have i8 : ¬ (bs.length : Int) < (c : Int) := by omega
        go_wp2
        go_quiet (fail)
        go_wp2
        refine wp_region_quiet_lit (by kernel_rfl) (by kernel_rfl) ?_
        iterate 15 go_big_quiet_step (fail)
        go_big_quiet_want
        refine quiet_conv (v := .slice (some a) 0 0) rfl rfl (fun nn => Hcv.out nn _) ?_
        simp only [Act.put, List.setIfInBounds_toArray, List.set_cons_succ, List.set_cons_zero]
        go_big_quiet_on
        repeat (go_big_quiet_step (fail))
        refine wpQuiet_nil ?_
        intro _ hw'
        obtain ⟨nq, hw''⟩ := hw'
        subst hw''
        go_wp2
        exact Hfin.out _
      · have Hcv : Hid (∀ nn : Nat, ∀ mm : Nat, (convert 39 9 (.slice (some (a.add k1)) n (c - k1))).run Tryd.prog ((w1.drewN mm).drewN nn) = .ok (.string (strL ((bs.drop k1).take n))) ((w1.drewN mm).drewN nn)) := Lib.hid fun nn mm => Hcn.out _ _ (hSL.out ((w1.drewN mm).drewN nn) _ (below_drewN (below_drewN (Below.refl _ _) mm) nn) (fun _ => rfl))
        clear hSL Hcn
        go_wp2
        go_quiet (fail)
        go_wp2
        refine wp_region_quiet_lit (by kernel_rfl) (by kernel_rfl) ?_
        iterate 15 go_big_quiet_step (fail)
        go_big_quiet_want
        refine quiet_conv (v := .slice (some (a.add k1)) n (c - k1)) rfl rfl (fun nn => Hcv.out nn _) ?_
        simp only [Act.put, List.setIfInBounds_toArray, List.set_cons_succ, List.set_cons_zero]
        go_big_quiet_on
        repeat (go_big_quiet_step (fail))
        refine wpQuiet_nil ?_
        intro _ hw'
        obtain ⟨nq, hw''⟩ := hw'
        subst hw''
        go_wp2
        exact Hfin.out _
  · have hgo := fun nn => HR.out ByteArray.empty k1 true (Nat.zero_le _) (fun h => by cases h) (fun _ => by
      cases q1 with
      | true =>
        rcases hq1 rfl with h | h
        · exact .inl h
        · right
          rw [← textR_eq (by rw [List.length_drop]; omega)]
          unfold textR
          rw [h]
          rfl
      | false =>
        right
        rw [← textR_eq (by rw [List.length_drop]; omega)]
        unfold textR
        rw [(hq0 rfl).2]
        simp only [Option.bind_some]
        rw [if_neg (by omega)]) ((w1.drewN nn).setCell ⟨p, 2, none⟩ (.bool true)) (grown_trans hg1 (grown_trans (grown_of_below (below_drewN (Below.refl w1.heap.size w1) nn) _) (grown_setCell (w1.drewN nn) ⟨p, 2, none⟩ _))) (ht1.other (below_drewN (Below.refl w1.heap.size w1) nn)).fell
    have Hgo := Lib.hid hgo
    have hli : (bs.length : Int) < (k1 : Int) + (n : Int) := by omega
    clear hblk ht1 hg1 hgo hq0 hq1 hs
    go_wp2
    go_quiet (fail)
    go_wp2
    exact Hgo.out _
theorem tText_any (p : Nat) (bs : List UInt8) (k : Nat) (bad : Bool) (w : World) (h : Tk w p bs k bad) (hlen : bs.length ≤ 90000) (R : Ending → World → Prop)
    (hR : ∀ (s : ByteArray) (k' : Nat) (q : Bool), s.size ≤ maxLen → (q = false → bad = false ∧ textL (bs.drop k) = some (s, bs.drop k')) → (q = true → bad = true ∨ textL (bs.drop k) = none) → ∀ w', w.grownBy w' (some p) → Tk w' p bs k' q → R (.returned (.string s)) w') :
    Calls Tryd.prog 51 #[.pointer (some ⟨p, 0, none⟩)] w R :=
  tText_few p bs k bad w h hlen R fun s k' q hs => hR s k' q (by unfold maxLen; omega)
end Go.Proofs.YtfhnmbnniklmiaaDoor

/- A list that is built in a field of a variable while a taker goes on. -/
namespace Go.Proofs.YtfhnmbnniklmiaaDoor
open Go.RowKit
set_option linter.unusedSimpArgs false
set_option linter.unusedVariables false

/-- A list lies in a field of the variable G, which holds (put list); the taker lies in p; wl: the world when the list was begun. -/
structure St {β : Type} (r : Rp β) (e T : TypeId) (put : Value → Array Value) (p G : Nat) (L : List UInt8) (wl wi : World) (k : Nat) (q : Bool) (v : Value) (ys : List β) (css : List (List Value)) : Prop where
  tk : Tk wi p L k q
  gb : wi.heap[G]? = some (.cells (put v) T (0, 0))
  bu : Built r wl.heap.size e (fun b => b < wl.heap.size) wi v ys css
  gr : Grew (fun b => b = p ∨ b = G) wl wi
theorem St.begin {β : Type} {r : Rp β} {e T : TypeId} {put : Value → Array Value} {p G : Nat} {L : List UInt8} {w : World} {k : Nat} {q : Bool} (h : Tk w p L k q) (hg : w.heap[G]? = some (.cells (put (.slice none 0 0)) T (0, 0))) : St r e T put p G L w w k q (.slice none 0 0) [] [] :=
  ⟨h, hg, Built.nil _ _ _ _ _ (fun _ h => h), Grew.refl _ _⟩
theorem St.take {β : Type} {r : Rp β} {e T : TypeId} {put : Value → Array Value} {p G : Nat} {L : List UInt8} {wl wi w' : World} {k k' : Nat} {q q' : Bool} {v : Value} {ys : List β} {css : List (List Value)} (h : St r e T put p G L wl wi k q v ys css) (hpG : p < G) (hG : G < wl.heap.size)
    (hg : Grew (fun b => b = p) wi w') (ht : Tk w' p L k' q') : St r e T put p G L wl w' k' q' v ys css :=
  ⟨ht, (hg.block G (blk_lt h.gb) (by omega)).trans h.gb, h.bu.keep hg.size fun j hj hx => hg.block j hj (fun e => hx (by show j < _; omega)), h.gr.trans hg fun j _ e => .inl e⟩
theorem St.far {β : Type} {r : Rp β} {e T : TypeId} {put : Value → Array Value} {p G : Nat} {L : List UInt8} {wr wl wi : World} {k : Nat} {q : Bool} {v : Value} {ys : List β} {css : List (List Value)} (h : St r e T put p G L wl wi k q v ys css) (hg : Grew (fun b => b = p) wr wl) (hG : wr.heap.size ≤ G) : Grew (fun b => b = p) wr wi :=
  hg.trans h.gr fun j hj e => by
    rcases e with e | e
    · exact e
    · omega
theorem Apart.plain {β : Type} {r : Rp β} {X : Nat → Prop} {w : World} {v : Value} {x : β} {cs : List Value} (hr : ∀ w B, r.rep w B x cs) : Apart r X w v x cs :=
  ⟨only w fun _ => false, hr _ _, fun p u hp => by have := (only_cell hp).2; cases this⟩
/-- A thing is appended. -/
theorem St.push {β : Type} {r : Rp β} {e T : TypeId} {put : Value → Array Value} {p G : Nat} {L : List UInt8} {wl wi w3 : World} {k : Nat} {q : Bool} {v : Value} {ys : List β} {css : List (List Value)} (h : St r e T put p G L wl wi k q v ys css) (hpG : p < G) (hG : G < wl.heap.size) (o : Obj)
    {x : β} {cs : List Value} {g cap n j : Nat} (hput : ∀ a u, (put a).setIfInBounds j u = put u) (hx : Apart r (fun b => b < wl.heap.size) (wi.alloc o) v x cs)
    (hown : w3.ownsRow wl.heap.size e r.size (.slice (some ⟨g, 0, none⟩) n cap) n (css.flatten ++ cs)) (hn : n = ys.length + 1) (hg : (wi.alloc o).grownBy w3 v.ownBlock) (hat : v.ownBlock = some g ∨ g = (wi.alloc o).heap.size) :
    w3.heap[G]? = some (.cells (put v) T (0, 0)) ∧ St r e T put p G L wl (w3.setCell ⟨G, j, none⟩ (.slice (some ⟨g, 0, none⟩) n cap)) k q (.slice (some ⟨g, 0, none⟩) n cap) (ys ++ [x]) (css ++ [cs]) := by
  have hl := h.tk.lt
  have hGl := blk_lt h.gb
  have hown0 : ∀ j, v.ownBlock = some j → wl.heap.size ≤ j := fun j hj => (h.bu.own.lt j hj).1
  have hG3 : w3.heap[G]? = some (.cells (put v) T (0, 0)) := (hg.block G (by simp; omega) (fun e => by have := hown0 _ e.symm; omega)).trans (blk_alloc h.gb o)
  have hB3 := (h.bu.alloc o).push hown hn hg hat hx
  have hgr : Grew (fun b => b = p ∨ b = G) wl w3 := (h.gr.alloc o).trans (Grew.of_grown hg) fun j hj e => by have := hown0 _ e; omega
  have htk : Tk w3 p L k q := by
    obtain ⟨a, Ta, h1, h2, h3⟩ := h.tk.other ((Below.refl _ _).alloc (Nat.le_refl _) o)
    refine ⟨a, Ta, (hg.block p (by simp; omega) (fun e => by have := hown0 _ e.symm; omega)).trans h1, h2.keep fun d hd => World.cell?_of_block (hg.block _ (by simp; omega) (fun e => by have := hown0 _ e.symm; omega)), h3⟩
  refine ⟨hG3, ⟨?_, ?_, ?_, ?_⟩⟩
  · obtain ⟨a, Ta, h1, h2, h3⟩ := htk
    exact ⟨a, Ta, blk_other h1 (by omega) _, by
      exact h2.keep fun d hd => World.cell?_of_block (Below.heap_setCell _ _ _ _ (by show _ ≠ G; omega)), h3⟩
  · rw [block_set hG3, hput]
  · exact hB3.setCell _ hG _
  · exact hgr.setCell _ (.inl (.inr rfl)) _
end Go.Proofs.YtfhnmbnniklmiaaDoor

/- ObjectOf, as the document says it: an object out of its bytes. -/
namespace Go.Proofs.YtfhnmbnniklmiaaDoor
open Go.RowKit
set_option linter.unusedSimpArgs false
set_option linter.unusedVariables false

theorem head_three {bs : List UInt8} (h : 3 ≤ bs.length) : bs.take 3 = [79, 66, 74] ↔ (bs.getD 0 0).toNat = 79 ∧ (bs.getD 1 0).toNat = 66 ∧ (bs.getD 2 0).toNat = 74 := by
  match bs, h with
  | a :: b :: c :: r, _ => simp [← UInt8.toNat_inj]

set_option maxRecDepth 100000 in
set_option maxHeartbeats 4000000 in
theorem ObjectOf_calls (v : Value) (bs : List UInt8) (w : World) (h : rpByte.SL w w.heap.size bs v) (hlen : bs.length ≤ 90000) (R : Ending → World → Prop)
    (hsome : ∀ o, loadedL bs = some o → ∀ w' u1 u2, Below w.heap.size w w' → rpGlobal.SLF w' w.heap.size w'.heap.size o.globals u1 → rpSection.SLF w' w.heap.size w'.heap.size o.sections u2 → R (.returned (.tuple #[.agg #[u1, u2], .bool true])) w')
    (hnone : loadedL bs = none → ∀ w' A1 n1 c1 A2 n2 c2, Below w.heap.size w w' → R (.returned (.tuple #[.agg #[.slice A1 n1 c1, .slice A2 n2 c2], .bool false])) w') :
    Calls Tryd.prog 52 #[v] w R := by
  obtain ⟨iI, hiI, zI0, zI1, zI2⟩ := info_parts info_int3
  obtain ⟨iG, hiG, zG0, zG1, zG2⟩ := info_parts info_Global
  obtain ⟨iS, hiS, zS0, zS1, zS2⟩ := info_parts info_Section
  obtain ⟨iM, hiM, zM0, zM1, zM2⟩ := info_parts info_Mend
  obtain ⟨A, c, rfl, hm, hcap, h⟩ := h.cases_
  have Hsome := Lib.hid hsome
  have Hnone := Lib.hid hnone
  have H := Lib.hid h
  clear hsome hnone h
  have hk2 : IntKind.i64.wrap ((bs.length : Int) - 2) = (bs.length : Int) - 2 := IntWalk.i64_in _ (by omega)
  by_cases h5 : bs.length < 5
  · have hno : loadedL bs = none := by
      unfold loadedL
      rw [if_neg (by unfold headOk; omega)]
    have hf := Lib.hid (Hnone.out hno)
    have i0 : (bs.length : Int) - 2 < 3 := by omega
    clear hno
    go_enter Tryd.func52, Tryd.ntmps52
    go_wp2
    go_quiet (fail)
    go_wp2
    refine bodyPost_ret (v := .tuple #[.agg #[.slice none 0 0, .slice none 0 0], .bool false]) (res_ObjB (T := 47) (by rfl) (by rfl) (by rfl) ?_) rfl ?_
    · exact blk_set1 (blk_set0 (blk_drewN (heap_alloc_new _ _) _) _) _
    · refine hf.out _ _ _ _ _ _ _ ?_
      exact bl0
  · obtain ⟨K, hK⟩ : ∃ K, bs.length = K + 2 := ⟨bs.length - 2, by omega⟩
    obtain ⟨b, off, rfl, hb, hcell0⟩ := H.out.byte_at (k := 0) (by omega)
    clear hcell0
    have HA : Hid (∀ W, Below w.heap.size w W → rpByte.SL W W.heap.size bs (.slice (some ⟨b, off, none⟩) bs.length c)) := Lib.hid fun W h => H.out.up h h.size
    obtain ⟨wa, hwa⟩ : ∃ wa, wa = w.alloc (Obj.cells #[.slice none 0 0, .slice none 0 0] 47) := ⟨_, rfl⟩
    have hbwa : Below w.heap.size w wa := by subst hwa; exact bl0
    have hQ : wa.heap[w.heap.size]? = some (.cells #[.slice none 0 0, .slice none 0 0] 47 (0, 0)) := by subst hwa; exact heap_alloc_new _ _
    have hza : wa.heap.size = w.heap.size + 1 := by subst hwa; simp
    have HQ := Lib.hid hQ
    obtain ⟨q0, q1, z0, z1⟩ := cells_of_block hQ
    have hwz : w.heap.size < wa.heap.size := by omega
    have HW := Lib.hid hwa.symm
    have Hbwa := Lib.hid hbwa
    have HK := Lib.hid hK
    have i0 : ¬ ((bs.length : Int) - 2) < 3 := by omega
    have cb0 : decide (((bs.length : Int) - 2) < 3) = false := decide_eq_false i0
    have i2 : ((bs.length : Int) - 2) < (bs.length : Int) := by omega
    have i3 : ((bs.length : Int) - 2) + 1 < (bs.length : Int) := by omega
    have i3' : ((bs.length : Int) - 1) < (bs.length : Int) := by omega
    have i4 : (0 : Int) ≤ ((bs.length : Int) - 2) := by omega
    have i4' : (0 : Int) ≤ ((bs.length : Int) - 1) := by omega
    have i5 : ((bs.length : Int) - 2) ≤ (c : Int) := by omega
    have i6 : (0 : Int) ≤ ((bs.length : Int) - 2) + 1 := by omega
    have i7 : ((bs.length : Int) - 2).toNat = K := by omega
    have i8 : (((bs.length : Int) - 2) + 1).toNat = K + 1 := by omega
    have i8' : ((bs.length : Int) - 1).toNat = K + 1 := by omega
    have k0 : (0 : Int) < (bs.length : Int) := by omega
    have k1 : (1 : Int) < (bs.length : Int) := by omega
    have k2 : (2 : Int) < (bs.length : Int) := by omega
    have hk4 : IntKind.i64.wrap (((bs.length : Int) - 2) + 1) = ((bs.length : Int) - 2) + 1 := IntWalk.i64_in _ (by omega)
    have g0 := byte_get_ (HA.out _ hbwa) (k := 0) (by omega)
    have g1 := byte_get_ (HA.out _ hbwa) (k := 1) (by omega)
    have g2 := byte_get_ (HA.out _ hbwa) (k := 2) (by omega)
    have gK := byte_get_ (HA.out _ hbwa) (k := K) (by omega)
    have gL := byte_get_ (HA.out _ hbwa) (k := K + 1) (by omega)
    rw [Nat.add_zero] at g0
    have hx0 := (bs.getD 0 0).toNat_lt
    have hx1 := (bs.getD 1 0).toNat_lt
    have hx2 := (bs.getD 2 0).toNat_lt
    have hx := (bs.getD K 0).toNat_lt
    have hy := (bs.getD (K + 1) 0).toNat_lt
    have hsl := sumL_lt (bs.take K)
    have hhead : headOk bs ↔ ((bs.getD 0 0).toNat = 79 ∧ (bs.getD 1 0).toNat = 66 ∧ (bs.getD 2 0).toNat = 74) ∧ sumL (bs.take K) = 256 * (bs.getD K 0).toNat + (bs.getD (K + 1) 0).toNat := by
      unfold headOk
      rw [head_three (by omega), hK, show K + 2 - 2 = K from rfl, show K + 2 - 1 = K + 1 from rfl]
      exact ⟨fun h => ⟨h.2.1, h.2.2⟩, fun h => ⟨by omega, h.1, h.2⟩⟩
    have HS : Hid (∀ W, Below w.heap.size w W → Calls Tryd.prog 83 #[.slice (some ⟨b, off, none⟩) K c] W fun e w' => e = .returned (.int .i64 (sumL (bs.take K) : Nat)) ∧ w' = W) := Lib.hid fun W h => SumOf_calls _ (bs.take K) W ((HA.out W h).take_ (by omega)) _ ⟨rfl, rfl⟩
    generalize (bs.getD 0 0).toNat = x0 at *
    generalize (bs.getD 1 0).toNat = x1 at *
    generalize (bs.getD 2 0).toNat = x2 at *
    generalize (bs.getD K 0).toNat = x at *
    generalize (bs.getD (K + 1) 0).toNat = y at *
    have Hhead := Lib.hid hhead
    have HLd : Hid (loadedL bs = if headOk bs then objectL ((bs.take K).drop 3) else none) := Lib.hid (by
      unfold loadedL
      rw [hK, show K + 2 - 2 = K from rfl])
    have j0 : (0 : Int) ≤ (x : Int) := by omega
    have j1 : (x : Int) < 256 := by omega
    have j2 : (0 : Int) ≤ (y : Int) := by omega
    have j3 : (y : Int) < 256 := by omega
    clear hhead hQ hwa hbwa hK
    by_cases hd : headOk bs
    rotate_left
    · have hno : loadedL bs = none := by rw [HLd.out, if_neg hd]
      have hf := Lib.hid (Hnone.out hno)
      have Hd := Lib.hid hd
      clear hno hd HLd
      go_enter Tryd.func52, Tryd.ntmps52
      go_wp2
      rw [HW.out]
      go_upto_region 2 with fail
      go_cut [58] (fun s58 wx => s58 = .bool true ∧ ∃ n, wx = wa.drewN n)
      case first =>
        by_cases e0 : x0 = 79
        rotate_left
        · have n0 : ((x0 : Int) != 79) = true := by simp; omega
          refine wp_region_quiet_lit (by kernel_rfl) (by kernel_rfl) ?_
          repeat (go_big_quiet_step ((go_at_call 83; exact Calls.quiet_of_same (HS.out _ (below_drewN Hbwa.out _)))))
          refine wpQuiet_nil ?_
          intro _ hw'
          obtain ⟨nq, hw''⟩ := hw'
          subst hw''
          go_wp2
          go_meet
          exact ⟨rfl, _, rfl⟩
        by_cases e1 : x1 = 66
        rotate_left
        · have n0 : ((x0 : Int) != 79) = false := by simp; omega
          have n1 : ((x1 : Int) != 66) = true := by simp; omega
          refine wp_region_quiet_lit (by kernel_rfl) (by kernel_rfl) ?_
          repeat (go_big_quiet_step ((go_at_call 83; exact Calls.quiet_of_same (HS.out _ (below_drewN Hbwa.out _)))))
          refine wpQuiet_nil ?_
          intro _ hw'
          obtain ⟨nq, hw''⟩ := hw'
          subst hw''
          go_wp2
          go_meet
          exact ⟨rfl, _, rfl⟩
        by_cases e2 : x2 = 74
        rotate_left
        · have n0 : ((x0 : Int) != 79) = false := by simp; omega
          have n1 : ((x1 : Int) != 66) = false := by simp; omega
          have n2 : ((x2 : Int) != 74) = true := by simp; omega
          refine wp_region_quiet_lit (by kernel_rfl) (by kernel_rfl) ?_
          repeat (go_big_quiet_step ((go_at_call 83; exact Calls.quiet_of_same (HS.out _ (below_drewN Hbwa.out _)))))
          refine wpQuiet_nil ?_
          intro _ hw'
          obtain ⟨nq, hw''⟩ := hw'
          subst hw''
          go_wp2
          go_meet
          exact ⟨rfl, _, rfl⟩
        · have n0 : ((x0 : Int) != 79) = false := by simp; omega
          have n1 : ((x1 : Int) != 66) = false := by simp; omega
          have n2 : ((x2 : Int) != 74) = false := by simp; omega
          have hsm : ¬ sumL (bs.take K) = 256 * x + y := fun e => Hd.out (Hhead.out.2 ⟨⟨e0, e1, e2⟩, e⟩)
          have hne : ((sumL (bs.take K) : Int) != 256 * (x : Int) + (y : Int)) = true := by simp; omega
          clear hsm
          generalize sumL (bs.take K) = sm at *
          refine wp_region_quiet_lit (by kernel_rfl) (by kernel_rfl) ?_
          repeat (go_big_quiet_step ((go_at_call 83; exact Calls.quiet_of_same (HS.out _ (below_drewN Hbwa.out _)))))
          refine wpQuiet_nil ?_
          intro _ hw'
          obtain ⟨nq, hw''⟩ := hw'
          subst hw''
          go_wp2
          go_meet
          exact ⟨rfl, _, rfl⟩
      case rest =>
        obtain ⟨rfl, nn, rfl⟩ := hcut
        go_wp2
        refine bodyPost_ret (v := .tuple #[.agg #[.slice none 0 0, .slice none 0 0], .bool false]) (res_ObjB (T := 47) (by rfl) (by rfl) (by rfl) ?_) rfl ?_
        · exact blk_set1 (blk_set0 (blk_drewN HQ.out _) _) _
        · refine hf.out _ _ _ _ _ _ _ ?_
          have hb := Hbwa.out
          exact bl0
    · obtain ⟨⟨rfl, rfl, rfl⟩, hsm⟩ := Hhead.out.1 hd
      have hne : ((sumL (bs.take K) : Int) != 256 * (x : Int) + (y : Int)) = false := by simp; omega
      have HLo : Hid (loadedL bs = objectL ((bs.take K).drop 3)) := Lib.hid (by rw [HLd.out, if_pos hd])
      clear hsm hd HLd Hhead
      generalize hsml : sumL (bs.take K) = sm at *
      clear hsml
      go_enter Tryd.func52, Tryd.ntmps52
      go_wp2
      rw [HW.out]
      go_upto_region 2 with fail
      go_cut [58] (fun s58 wx => s58 = .bool false ∧ ∃ n, wx = wa.drewN n)
      case first =>
          refine wp_region_quiet_lit (by kernel_rfl) (by kernel_rfl) ?_
          repeat (go_big_quiet_step ((go_at_call 83; exact Calls.quiet_of_same (HS.out _ (below_drewN Hbwa.out _)))))
          refine wpQuiet_nil ?_
          intro _ hw'
          obtain ⟨nq, hw''⟩ := hw'
          subst hw''
          go_wp2
          go_meet
          exact ⟨rfl, _, rfl⟩
      case rest =>
        obtain ⟨rfl, nn, rfl⟩ := hcut
        go_wp2_with fail
        obtain ⟨L, hL⟩ : ∃ L, L = bs.take K := ⟨_, rfl⟩
        have hLl : L.length = K := by rw [hL, List.length_take]; have := HK.out; omega
        have hLb : L.length ≤ 90000 := by have := HK.out; omega
        obtain ⟨W0, hW0⟩ : ∃ W0, W0 = ((wa.drewN nn).alloc (Obj.cells #[.slice (some ⟨b, off, none⟩) K c, .int .i64 3, .bool false] 98)).alloc (Obj.cells #[.slice none 0 0, .slice none 0 0] 47) := ⟨_, rfl⟩
        rw [← hW0]
        have hz0 : W0.heap.size = w.heap.size + 3 := by subst hW0; simp; omega
        have hb0 : Below w.heap.size w W0 := by
          subst hW0
          have hb := Hbwa.out
          exact bl0
        have hQ0 : W0.heap[w.heap.size]? = some (.cells #[.slice none 0 0, .slice none 0 0] 47 (0, 0)) := by subst hW0; exact blk_alloc (blk_alloc (blk_drewN HQ.out _) _) _
        have hO0 : W0.heap[w.heap.size + 1 + 1]? = some (.cells #[.slice none 0 0, .slice none 0 0] 47 (0, 0)) := by
          subst hW0
          have := heap_alloc_new ((wa.drewN nn).alloc (Obj.cells #[.slice (some ⟨b, off, none⟩) K c, .int .i64 3, .bool false] 98)) (Obj.cells #[.slice none 0 0, .slice none 0 0] 47)
          rw [show ((wa.drewN nn).alloc (Obj.cells #[.slice (some ⟨b, off, none⟩) K c, .int .i64 3, .bool false] 98)).heap.size = w.heap.size + 1 + 1 from by simp; omega] at this
          exact this
        have hT0 : Tk W0 (w.heap.size + 1) L 3 false := by
          refine ⟨_, 98, by
            subst hW0
            have := heap_alloc_new (wa.drewN nn) (Obj.cells #[.slice (some ⟨b, off, none⟩) K c, .int .i64 3, .bool false] 98)
            rw [show (wa.drewN nn).heap.size = w.heap.size + 1 from hza] at this
            exact blk_alloc this _, ?_, by omega⟩
          have h1 := H.out.up hb0 (show w.heap.size ≤ w.heap.size + 1 by omega)
          rw [hL]
          exact h1.take_ (k := K) (by have := HK.out; omega)
        have HLq : Hid (loadedL bs = objectL (L.drop 3)) := Lib.hid (by rw [hL]; exact HLo.out)
        have HQ0 := Lib.hid hQ0
        have HO0 := Lib.hid hO0
        have HT0 := Lib.hid hT0
        have Hb0 := Lib.hid hb0
        have hKK := Lib.hid hLl
        clear hQ0 hO0 hT0 hb0 hW0 hL HLo HQ hza hwz q0 q1 z0 z1 g0 g1 g2 gK gL hLl HS hne i0 cb0 i2 i3 i3' i4 i4' i5 i6 i7 i8 i8' k0 k1 k2 hk4 hk2
        refine tSmall_any (w.heap.size + 1) L 3 false _ HT0.out (by omega) _ (fun n1 k1 q1 hn1 a0 a1 w1 hg1 ht1 => ?_)
        have hst1 : St rpGlobal 111 47 (fun v => #[v, .slice none 0 0]) (w.heap.size + 1) (w.heap.size + 1 + 1) L W0 w1 k1 q1 (.slice none 0 0) [] [] :=
          (St.begin HT0.out HO0.out).take (by omega) (by omega) ((Grew.of_grown hg1).more fun j _ e => (Option.some.inj e).symm) ht1
        have Hst1 := Lib.hid hst1
        have N0 : Hid (q1 = false → (timesL globalL n1 (L.drop k1)).map (fun y => (([] : List Global) ++ y.1, y.2)) = listL globalL (L.drop 3)) := Lib.hid fun hq => by
          rw [← listR_eq globalL_short (by rw [List.length_drop]; omega)]
          unfold listR
          rw [(a0 hq).2]
          show _ = timesL globalL n1 _
          cases timesL globalL n1 (L.drop k1) <;> rfl
        have N1 : Hid (q1 = true → listL globalL (L.drop 3) = none) := Lib.hid fun hq => by
          rw [← listR_eq globalL_short (by rw [List.length_drop]; omega)]
          rcases a1 hq with h | h
          · cases h
          · unfold listR
            rw [h]
            rfl
        clear hst1 a0 a1 hg1 ht1
        go_upto_block 0 with fail
        go_cut [] (fun wx => ∃ (k : Nat) (q : Bool) (v : Value) (xs : List Global) (css : List (List Value)), St rpGlobal 111 47 (fun v => #[v, .slice none 0 0]) (w.heap.size + 1) (w.heap.size + 1 + 1) L W0 wx k q v xs css ∧ (q = false → listL globalL (L.drop 3) = some (xs, L.drop k)) ∧ (q = true → listL globalL (L.drop 3) = none))
        case first =>
          go_wp2_with fail
          go_loopg [7, 8, 9, 10, 11] n1 (fun gh s7 s8 s9 s10 s11 wr => ∃ (n k : Nat) (q : Bool) (v : Value) (xs : List Global) (css : List (List Value)), gh = n ∧ s7 = .int .i64 (n : Int) ∧ n + xs.length ≤ 90000 ∧ St rpGlobal 111 47 (fun v => #[v, .slice none 0 0]) (w.heap.size + 1) (w.heap.size + 1 + 1) L W0 wr k q v xs css ∧
            (q = false → (timesL globalL n (L.drop k)).map (fun y => (xs ++ y.1, y.2)) = listL globalL (L.drop 3)) ∧ (q = true → listL globalL (L.drop 3) = none))
          case atStart => exact ⟨n1, k1, q1, _, [], [], rfl, rfl, by simp; omega, Hst1.out, N0.out, N1.out⟩
          case round =>
            obtain ⟨n, k, q, vo, xs, css, hgh, rfl, hnl, hst, m0, m1⟩ := hrel
            have hpw := hst.tk.lt
            have hsz := hst.gr.size
            obtain ⟨vt, Tt, hblk, _, _⟩ := id hst.tk
            obtain ⟨c0, c1, c2, z0, z1, z2⟩ := cells3_of_block hblk
            have Hst := Lib.hid hst
            have M0 := Lib.hid m0
            have M1 := Lib.hid m1
            have Hgh := Lib.hid hgh
            clear hst m0 m1 hgh hblk
            cases q
            rotate_left
            · clear M0
              by_cases hn : 0 < n
              · have i0 : (0 : Int) < (n : Int) := by omega
                go_wp2
                go_meet
                exact ⟨k, true, vo, xs, css, Hst.out, (fun h => by cases h), (fun _ => M1.out (by trivial))⟩
              · have i0 : ¬ (0 : Int) < (n : Int) := by omega
                go_wp2
                go_meet
                exact ⟨k, true, vo, xs, css, Hst.out, (fun h => by cases h), (fun _ => M1.out (by trivial))⟩
            · by_cases hn : n = 0
              · have i0 : ¬ (0 : Int) < (n : Int) := by omega
                have hfin : Hid (listL globalL (L.drop 3) = some (xs, L.drop k)) := Lib.hid (by
                  have := M0.out rfl
                  subst hn
                  rw [← this]
                  simp [timesL])
                clear M0 M1
                go_wp2
                all_goals first | (exfalso; omega) | skip
                go_meet
                exact ⟨k, false, vo, xs, css, Hst.out, (fun _ => hfin.out), (fun h => by cases h)⟩
              · have i0 : (0 : Int) < (n : Int) := by omega
                obtain ⟨m, rfl⟩ : ∃ m, n = m + 1 := ⟨n - 1, by omega⟩
                have Ht := Lib.hid (M0.out rfl)
                clear M0 M1 hn
                go_wp2_with fail
                refine tText_any (w.heap.size + 1) L k false _ Hst.out.tk hLb _ (fun s k2 q2 hs a0 a1 w2 hg2 ht2 => ?_)
                have hz2 := hg2.size
                obtain ⟨W2, hW2⟩ : ∃ W2, W2 = w2.alloc (Obj.cells #[.string s, .int .i64 0, .slice none 0 0] 111) := ⟨_, rfl⟩
                have hG2 : W2.heap[w2.heap.size]? = some (.cells #[.string s, .int .i64 0, .slice none 0 0] 111 (0, 0)) := by subst hW2; exact heap_alloc_new _ _
                have hzW2 : W2.heap.size = w2.heap.size + 1 := by subst hW2; simp
                have hT2 : Tk W2 (w.heap.size + 1) L k2 q2 := by subst hW2; exact ht2.other ((Below.refl _ _).alloc (Nat.le_refl _) _)
                have hgr2 : Grew (fun b => b = w.heap.size + 1) wr W2 := by subst hW2; exact ((Grew.of_grown hg2).more fun j _ e => (Option.some.inj e).symm).alloc _
                have HG2 := Lib.hid hG2
                have HT2 := Lib.hid hT2
                have Hgr2 := Lib.hid hgr2
                have HW2 := Lib.hid hW2.symm
                have A0 := Lib.hid a0
                have A1 := Lib.hid a1
                have hpG : w.heap.size + 1 < w2.heap.size := by omega
                clear hG2 hT2 hgr2 hW2 a0 a1 hg2 ht2
                go_wp2_with fail
                rw [HW2.out]
                refine tSmall_any (w.heap.size + 1) L k2 q2 _ HT2.out (by omega) _ (fun z k3 q3 hz b0 b1 w3 hg3 ht3 => ?_)
                have hz3 := hg3.size
                have hG3 := gr_blk hg3 HG2.out (by omega)
                obtain ⟨d0, d1, d2, y0, y1, y2⟩ := three_cells hG3
                obtain ⟨W3, hW3⟩ : ∃ W3, W3 = w3.setCell ⟨w2.heap.size, 1, none⟩ (.int .i64 (z : Int)) := ⟨_, rfl⟩
                have hzW3 : W3.heap.size = w3.heap.size := by subst hW3; simp [World.setCell]
                have hG3' : W3.heap[w2.heap.size]? = some (.cells #[.string s, .int .i64 (z : Int), .slice none 0 0] 111 (0, 0)) := by subst hW3; exact (three_set hG3).2.1 _
                have hT3 : Tk W3 (w.heap.size + 1) L k3 q3 := by subst hW3; exact tk_far ht3 (grown_setCell w3 ⟨w2.heap.size, 1, none⟩ _) hpG
                have hgr3 : Grew (fun b => b = w.heap.size + 1) wr W3 := by
                  subst hW3
                  exact (Hgr2.out.trans (Grew.of_grown hg3) fun j _ e => (Option.some.inj e).symm).setCell _ (.inr (by show _ ≤ w2.heap.size; omega)) _
                have HG3 := Lib.hid hG3'
                have HT3 := Lib.hid hT3
                have Hgr3 := Lib.hid hgr3
                have HW3 := Lib.hid hW3.symm
                have B0 := Lib.hid b0
                have B1 := Lib.hid b1
                have hGl3 : w2.heap.size < w3.heap.size := by omega
                clear hG3 hG3' hT3 hgr3 hW3 b0 b1 hg3 ht3
                go_wp2_with fail
                rw [HW3.out]
                refine tSmall_any (w.heap.size + 1) L k3 q3 _ HT3.out (by omega) _ (fun nj k4 q4 hnj e0 e1 w4 hg4 ht4 => ?_)
                have hz4 := hg4.size
                have hG4 := gr_blk hg4 HG3.out (by omega)
                have hgr4 : Grew (fun b => b = w.heap.size + 1) wr w4 := Hgr3.out.trans (Grew.of_grown hg4) fun j _ e => (Option.some.inj e).symm
                have hin : St rpInt 3 111 (fun v => #[.string s, .int .i64 (z : Int), v]) (w.heap.size + 1) w2.heap.size L w4 w4 k4 q4 (.slice none 0 0) [] [] := St.begin ht4 hG4
                have E0 : Hid (q4 = false → q3 = false ∧ (timesL intL nj (L.drop k4)).map (fun y => (([] : List Int) ++ y.1, y.2)) = listL intL (L.drop k3)) := Lib.hid fun hq => by
                  refine ⟨(e0 hq).1, ?_⟩
                  rw [← listR_eq intL_short (by rw [List.length_drop]; omega)]
                  unfold listR
                  rw [(e0 hq).2]
                  show _ = timesL intL nj _
                  cases timesL intL nj (L.drop k4) <;> rfl
                have E1 : Hid (q4 = true → q3 = true ∨ listL intL (L.drop k3) = none) := Lib.hid fun hq => by
                  rw [← listR_eq intL_short (by rw [List.length_drop]; omega)]
                  rcases e1 hq with h | h
                  · exact .inl h
                  · right
                    unfold listR
                    rw [h]
                    rfl
                have Hin := Lib.hid hin
                have Hgr4 := Lib.hid hgr4
                have hGl4 : w2.heap.size < w4.heap.size := by omega
                clear hin hgr4 e0 e1 hg4 ht4 hG4 d0 d1 d2 y0 y1 y2 c0 c1 c2 z0 z1 z2 hGl3 hzW3 hzW2 hz3
                go_upto_block 2 with fail
                go_cut [] (fun wx => ∃ (k : Nat) (q : Bool) (v : Value) (ys : List Int) (css : List (List Value)), St rpInt 3 111 (fun v => #[.string s, .int .i64 (z : Int), v]) (w.heap.size + 1) w2.heap.size L w4 wx k q v ys css ∧ (q = false → q3 = false ∧ listL intL (L.drop k3) = some (ys, L.drop k)) ∧ (q = true → q3 = true ∨ listL intL (L.drop k3) = none))
                case first =>
                  go_wp2_with fail
                  go_loopg [9, 10, 11] nj (fun gh s9 s10 s11 wi => ∃ (n k : Nat) (q : Bool) (v : Value) (ys : List Int) (css : List (List Value)), gh = n ∧ s9 = .int .i64 (n : Int) ∧ n + ys.length ≤ 90000 ∧ St rpInt 3 111 (fun v => #[.string s, .int .i64 (z : Int), v]) (w.heap.size + 1) w2.heap.size L w4 wi k q v ys css ∧
                    (q = false → q3 = false ∧ (timesL intL n (L.drop k)).map (fun y => (ys ++ y.1, y.2)) = listL intL (L.drop k3)) ∧ (q = true → q3 = true ∨ listL intL (L.drop k3) = none))
                  case atStart => exact ⟨nj, k4, q4, _, [], [], rfl, rfl, by simp; omega, Hin.out, E0.out, E1.out⟩
                  case round =>
                    rename World => wi
                    obtain ⟨n, kk, q, vi, ys, cssi, hgh2, rfl, hnl2, hsti, m2, m3⟩ := hrel
                    have hpi := hsti.tk.lt
                    have hszi := hsti.gr.size
                    obtain ⟨vt, Tt, hblk, _, _⟩ := id hsti.tk
                    obtain ⟨c0, c1, c2, z0, z1, z2⟩ := cells3_of_block hblk
                    have Hsti := Lib.hid hsti
                    have M2 := Lib.hid m2
                    have M3 := Lib.hid m3
                    have Hgh2 := Lib.hid hgh2
                    clear hsti m2 m3 hgh2 hblk
                    cases q
                    rotate_left
                    · clear M2
                      by_cases hn : 0 < n
                      · have i0 : (0 : Int) < (n : Int) := by omega
                        go_wp2
                        go_meet
                        exact ⟨kk, true, vi, ys, cssi, Hsti.out, (fun h => by cases h), (fun _ => M3.out (by trivial))⟩
                      · have i0 : ¬ (0 : Int) < (n : Int) := by omega
                        go_wp2
                        go_meet
                        exact ⟨kk, true, vi, ys, cssi, Hsti.out, (fun h => by cases h), (fun _ => M3.out (by trivial))⟩
                    · by_cases hn : n = 0
                      · have i0 : ¬ (0 : Int) < (n : Int) := by omega
                        have hfin : Hid (q3 = false ∧ listL intL (L.drop k3) = some (ys, L.drop kk)) := Lib.hid (by
                          obtain ⟨h1, h2⟩ := M2.out rfl
                          subst hn
                          refine ⟨h1, ?_⟩
                          rw [← h2]
                          simp [timesL])
                        clear M2 M3
                        go_wp2
                        all_goals first | (exfalso; omega) | skip
                        go_meet
                        exact ⟨kk, false, vi, ys, cssi, Hsti.out, (fun _ => hfin.out), (fun h => by cases h)⟩
                      · have i0 : (0 : Int) < (n : Int) := by omega
                        obtain ⟨m', rfl⟩ : ∃ m, n = m + 1 := ⟨n - 1, by omega⟩
                        have Hq3 := Lib.hid (M2.out rfl).1
                        have Ht2 := Lib.hid (M2.out rfl).2
                        clear M2 M3 hn
                        go_wp2_with fail
                        refine tNumber_any (w.heap.size + 1) L kk false _ Hsti.out.tk (by omega) _ (fun x' kx qx hx' f0 f1 w5 hg5 ht5 => ?_)
                        have hst5 := Hsti.out.take hpG hGl4 ((Grew.of_grown hg5).more fun j _ e => (Option.some.inj e).symm) ht5
                        have hz5 := hg5.size
                        obtain ⟨t0, t1, t2, y0, y1, y2⟩ := three_cells hst5.gb
                        obtain ⟨A5, n5, hu5⟩ : ∃ A c, vi = .slice A ys.length c := own_slice hst5.bu.own
                        subst hu5
                        have f2 : ∀ v, v = unfoldN x' → qx = false → q3 = false ∧ (timesL intL m' (L.drop kx)).map (fun y => ((ys ++ [v]) ++ y.1, y.2)) = listL intL (L.drop k3) := fun v hv hq => by
                          subst hv
                          refine ⟨Hq3.out, ?_⟩
                          have h2 : intL (L.drop kk) = some (unfoldN x', L.drop kx) := by unfold intL; rw [(f0 hq).2]; rfl
                          rw [← timesL_step h2]
                          exact Ht2.out
                        have f3 : qx = true → q3 = true ∨ listL intL (L.drop k3) = none := fun hq => by
                          rcases f1 hq with h2 | h2
                          · cases h2
                          · right
                            have h3 : intL (L.drop kk) = none := by unfold intL; rw [h2]; rfl
                            have := Ht2.out
                            rw [timesL_none h3] at this
                            exact this.symm
                        have F1 := Lib.hid f3
                        have Hst5 := Lib.hid hst5
                        have hGl5 : w2.heap.size < w5.heap.size := by omega
                        have cv : IntKind.i64.wrap ((x' : Int) / 2) = (x' : Int) / 2 := IntWalk.i64_in _ (by omega)
                        have cv0 : (0 : Int) ≤ (x' : Int) / 2 := by omega
                        have cv1 : (x' : Int) / 2 ≤ 9223372036854775807 := by omega
                        have hW : Hid (∀ val : Int, (w5.alloc (Obj.cells #[.int .i64 val] 3)).ownsRow w4.heap.size 3 1 (.slice A5 ys.length n5) ys.length cssi.flatten) := Lib.hid fun val => (hst5.bu.alloc _).own
                        by_cases hpar : x' % 2 = 1
                        · have pb : (((x' : Int) % 2) == 1) = true := by simp; omega
                          have nv : IntKind.i64.wrap (-((x' : Int) / 2)) = -((x' : Int) / 2) := IntWalk.i64_in _ (by omega)
                          have nw : IntKind.i64.wrap (-((x' : Int) / 2) - 1) = -((x' : Int) / 2) - 1 := IntWalk.i64_in _ (by omega)
                          have F0 := Lib.hid (f2 (-((x' : Int) / 2) - 1) (by unfold unfoldN; rw [if_pos hpar]; omega))
                          clear hst5 hg5 ht5 f0 f1 f2 f3 hpar c0 c1 c2 z0 z1 z2
                          go_wp2_with (at_builtin; refine wpList_append_lies _ rfl _ _ 52 rfl w4.heap.size 3 iI _ 1 8 Tryd.underlying52 hiI zI0 zI1 zI2 rfl (by decide) (.slice A5 ys.length n5) ys.length cssi.flatten rfl (hW.out _) ⟨w5.heap.size, 0, none⟩ 1 1 [.int .i64 (-((x' : Int) / 2) - 1)] rfl rfl ?_ ?_ (by decide) ?_ ?_ ?_ _ rfl ?_)
                          any_goals (first | exact World.news_of_block (cs := #[.int .i64 (-((x' : Int) / 2) - 1)]) (t := 3) (fr := (0, 0)) (heap_alloc_new _ _) | (simp [Value.oneCell']; done) | (unfold maxLen; omega) | omega | (simp; done) | (simp; omega))
                          intro gb cap w7 hown7 hgrow7 hat7 hlt7
                          obtain ⟨hG7, hst7⟩ := Hst5.out.push hpG hGl4 (Obj.cells #[.int .i64 (-((x' : Int) / 2) - 1)] 3) (x := -((x' : Int) / 2) - 1) (cs := [.int .i64 (-((x' : Int) / 2) - 1)]) (j := 2) (fun _ _ => rfl) (Apart.plain (fun _ _ => rfl)) hown7 rfl hgrow7 (by simpa using hat7)
                          obtain ⟨t0, t1, t2, y0, y1, y2⟩ := three_cells hG7
                          have Hst7 := Lib.hid hst7
                          clear hst7 hown7 hgrow7 hat7 hG7
                          go_wp2
                          go_roundg m'
                          case measure => have := Hgh2.out; omega
                          case rel => exact ⟨m', kx, qx, _, _, _, rfl, by go_num, by simp; omega, Hst7.out, F0.out, F1.out⟩
                        · have pb : (((x' : Int) % 2) == 1) = false := by simp; omega
                          have F0 := Lib.hid (f2 ((x' : Int) / 2) (by unfold unfoldN; rw [if_neg hpar]; omega))
                          clear hst5 hg5 ht5 f0 f1 f2 f3 hpar c0 c1 c2 z0 z1 z2
                          go_wp2_with (at_builtin; refine wpList_append_lies _ rfl _ _ 52 rfl w4.heap.size 3 iI _ 1 8 Tryd.underlying52 hiI zI0 zI1 zI2 rfl (by decide) (.slice A5 ys.length n5) ys.length cssi.flatten rfl (hW.out _) ⟨w5.heap.size, 0, none⟩ 1 1 [.int .i64 ((x' : Int) / 2)] rfl rfl ?_ ?_ (by decide) ?_ ?_ ?_ _ rfl ?_)
                          any_goals (first | exact World.news_of_block (cs := #[.int .i64 ((x' : Int) / 2)]) (t := 3) (fr := (0, 0)) (heap_alloc_new _ _) | (simp [Value.oneCell']; done) | (unfold maxLen; omega) | omega | (simp; done) | (simp; omega))
                          intro gb cap w7 hown7 hgrow7 hat7 hlt7
                          obtain ⟨hG7, hst7⟩ := Hst5.out.push hpG hGl4 (Obj.cells #[.int .i64 ((x' : Int) / 2)] 3) (x := (x' : Int) / 2) (cs := [.int .i64 ((x' : Int) / 2)]) (j := 2) (fun _ _ => rfl) (Apart.plain (fun _ _ => rfl)) hown7 rfl hgrow7 (by simpa using hat7)
                          obtain ⟨t0, t1, t2, y0, y1, y2⟩ := three_cells hG7
                          have Hst7 := Lib.hid hst7
                          clear hst7 hown7 hgrow7 hat7 hG7
                          go_wp2
                          go_roundg m'
                          case measure => have := Hgh2.out; omega
                          case rel => exact ⟨m', kx, qx, _, _, _, rfl, by go_num, by simp; omega, Hst7.out, F0.out, F1.out⟩
                case rest =>
                  rename World => wx
                  obtain ⟨kx, qx, vi, ys, cssi, hsti, f0, f1⟩ := hcut
                  have hszi := hsti.gr.size
                  have hgi := hsti.far Hgr4.out (by omega)
                  have hsto := Hst.out.take (by omega) (by omega) hgi hsti.tk
                  obtain ⟨A6, n6, hu6⟩ : ∃ A c, vi = .slice A ys.length c := own_slice hsti.bu.own
                  subst hu6
                  obtain ⟨A7, n7, hu7⟩ : ∃ A c, vo = .slice A xs.length c := own_slice hsto.bu.own
                  subst hu7
                  obtain ⟨l0, l1⟩ := three_read (A := textL) (B := smallL) (C := listL intL) (D := globalL) (f := fun a b c => (⟨a, (b : Int), c⟩ : Global)) (bad := false) (bs := L.drop k) (fun bs => rfl) (fun h => by simpa using A0.out h) (fun h => by simpa using A1.out h) (fun h => by simpa using B0.out h) (fun h => by simpa using B1.out h) f0 f1
                  have P0 : Hid (qx = false → (timesL globalL m (L.drop kx)).map (fun y => ((xs ++ [(⟨s, (z : Int), ys⟩ : Global)]) ++ y.1, y.2)) = listL globalL (L.drop 3)) := Lib.hid fun hq => by
                    rw [← timesL_step (l0 hq).2]
                    exact Ht.out
                  have P1 : Hid (qx = true → listL globalL (L.drop 3) = none) := Lib.hid fun hq => by
                    rcases l1 hq with h | h
                    · cases h
                    · have := Ht.out
                      rw [timesL_none h] at this
                      exact this.symm
                  have hAp : Apart rpGlobal (fun b => b < W0.heap.size) (wx.alloc (Obj.cells #[.string s, .int .i64 (z : Int), .slice A6 ys.length n6] 111)) (.slice A7 xs.length n7) (⟨s, (z : Int), ys⟩ : Global) [.string s, .int .i64 (z : Int), .slice A6 ys.length n6] := by
                    refine Apart.of_only (base := w4.heap.size) (rpGlobal_mk ?_) (fun j hj => by omega) (fun j hj => ?_)
                    · exact ((hsti.bu.SLF (b := w4.heap.size) (B := wx.heap.size) (fun _ h => h) (Nat.le_refl _) (Nat.le_refl _)).below ((Below.refl _ _).alloc (Nat.le_refl _) _) (Nat.le_refl _)).more (Nat.le_refl _) (by simp)
                    · have := (Hst.out.bu.own.lt _ hj).2
                      omega
                  have hW : Hid ((wx.alloc (Obj.cells #[.string s, .int .i64 (z : Int), .slice A6 ys.length n6] 111)).ownsRow W0.heap.size 111 3 (.slice A7 xs.length n7) xs.length css.flatten) := Lib.hid (hsto.bu.alloc _).own
                  obtain ⟨d0, d1, d2, y0, y1, y2⟩ := three_cells hsti.gb
                  obtain ⟨o0, o1, x0, x1⟩ := cells_of_block hsto.gb
                  have HAp := Lib.hid hAp
                  have Hsto := Lib.hid hsto
                  have hOl : w.heap.size + 1 + 1 < W0.heap.size := by omega
                  have hOx : w.heap.size + 1 + 1 < wx.heap.size := by omega
                  have hGx : w2.heap.size < wx.heap.size := by omega
                  clear hsti hgi hsto l0 l1 hAp f0 f1
                  go_wp2_with (at_builtin; refine wpList_append_lies _ rfl _ _ 32 rfl W0.heap.size 111 iG _ 3 48 Tryd.underlying32 hiG zG0 zG1 zG2 rfl (by decide) (.slice A7 xs.length n7) xs.length css.flatten rfl hW.out ⟨wx.heap.size, 0, none⟩ 1 1 [.string s, .int .i64 (z : Int), .slice A6 ys.length n6] rfl rfl ?_ ?_ (by decide) ?_ ?_ ?_ _ rfl ?_)
                  any_goals (first | exact World.news_of_block (cs := #[.string s, .int .i64 (z : Int), .slice A6 ys.length n6]) (t := 111) (fr := (0, 0)) (heap_alloc_new _ _) | (simp [Value.oneCell']; done) | (unfold maxLen; omega) | omega | (simp; done) | (simp; omega))
                  intro gb cap w7 hown7 hgrow7 hat7 hlt7
                  obtain ⟨hO7, hst7⟩ := Hsto.out.push (by omega) hOl (Obj.cells #[.string s, .int .i64 (z : Int), .slice A6 ys.length n6] 111) (j := 0) (fun _ _ => rfl) HAp.out (by rw [hz0]; exact hown7) rfl hgrow7 (by simpa using hat7)
                  obtain ⟨o0, o1, x0, x1⟩ := cells_of_block hO7
                  have Hst7 := Lib.hid hst7
                  clear hst7 hown7 hgrow7 hat7 hO7
                  go_wp2
                  go_roundg m
                  case measure => have := Hgh.out; omega
                  case rel => exact ⟨m, kx, qx, _, _, _, rfl, by go_num, by simp; omega, Hst7.out, P0.out, P1.out⟩
        case rest =>
          rename World => wy
          obtain ⟨k5, q5, vg, gs, cssg, hstg, g0, g1⟩ := hcut
          have hsz5 := hstg.gr.size
          obtain ⟨A8, n8, hu8⟩ : ∃ A c, vg = .slice A gs.length c := own_slice hstg.bu.own
          subst hu8
          have Hstg := Lib.hid hstg
          have G0 := Lib.hid g0
          have G1 := Lib.hid g1
          clear hstg g0 g1
          go_wp2_with fail
          refine tSmall_any (w.heap.size + 1) L k5 q5 _ Hstg.out.tk (by omega) _ (fun n6 k6 q6 hn6 a0 a1 w6 hg6 ht6 => ?_)
          have hz6 := hg6.size
          have hO6 := gr_blk hg6 Hstg.out.gb (by omega)
          have hst6 : St rpSection 64 47 (fun v => #[.slice A8 gs.length n8, v]) (w.heap.size + 1) (w.heap.size + 1 + 1) L w6 w6 k6 q6 (.slice none 0 0) [] [] := St.begin ht6 hO6
          have hsg6 : rpGlobal.SLF w6 W0.heap.size wy.heap.size gs (.slice A8 gs.length n8) :=
            (Hstg.out.bu.SLF (b := W0.heap.size) (B := wy.heap.size) (fun _ h => h) (Nat.le_refl _) (Nat.le_refl _)).keepB fun j h1 h2 => hg6.block j h2 (by intro e; injection e with e; omega)
          have hgr6 : Grew (fun b => b = w.heap.size + 1 ∨ b = w.heap.size + 1 + 1) W0 w6 := Hstg.out.gr.trans (Grew.of_grown hg6) fun j _ e => .inl (Option.some.inj e).symm
          have Hst6 := Lib.hid hst6
          have Hsg6 := Lib.hid hsg6
          have Hgr6 := Lib.hid hgr6
          have N0 : Hid (q6 = false → q5 = false ∧ (timesL sectionL n6 (L.drop k6)).map (fun y => (([] : List Section) ++ y.1, y.2)) = listL sectionL (L.drop k5)) := Lib.hid fun hq => by
            refine ⟨(a0 hq).1, ?_⟩
            rw [← listR_eq sectionL_short (by rw [List.length_drop]; omega)]
            unfold listR
            rw [(a0 hq).2]
            show _ = timesL sectionL n6 _
            cases timesL sectionL n6 (L.drop k6) <;> rfl
          have N1 : Hid (q6 = true → q5 = true ∨ listL sectionL (L.drop k5) = none) := Lib.hid fun hq => by
            rw [← listR_eq sectionL_short (by rw [List.length_drop]; omega)]
            rcases a1 hq with h | h
            · exact .inl h
            · right
              unfold listR
              rw [h]
              rfl
          have hz60 := hgr6.size
          clear hst6 hsg6 hgr6 a0 a1 hg6 ht6 hO6 Hstg
          go_upto_block 4 with fail
          go_cut [] (fun wx => ∃ (k : Nat) (q : Bool) (v : Value) (xs : List Section) (css : List (List Value)), St rpSection 64 47 (fun v => #[.slice A8 gs.length n8, v]) (w.heap.size + 1) (w.heap.size + 1 + 1) L w6 wx k q v xs css ∧ (q = false → q5 = false ∧ listL sectionL (L.drop k5) = some (xs, L.drop k)) ∧ (q = true → q5 = true ∨ listL sectionL (L.drop k5) = none))
          case first =>
            go_wp2_with fail
            go_loopg [12, 13, 14, 15] n6 (fun gh s12 s13 s14 s15 wr => ∃ (n k : Nat) (q : Bool) (v : Value) (xs : List Section) (css : List (List Value)), gh = n ∧ s12 = .int .i64 (n : Int) ∧ n + xs.length ≤ 90000 ∧ St rpSection 64 47 (fun v => #[.slice A8 gs.length n8, v]) (w.heap.size + 1) (w.heap.size + 1 + 1) L w6 wr k q v xs css ∧
              (q = false → q5 = false ∧ (timesL sectionL n (L.drop k)).map (fun y => (xs ++ y.1, y.2)) = listL sectionL (L.drop k5)) ∧ (q = true → q5 = true ∨ listL sectionL (L.drop k5) = none))
            case atStart => exact ⟨n6, k6, q6, _, [], [], rfl, rfl, by simp; omega, Hst6.out, N0.out, N1.out⟩
            case round =>
              rename World => wr
              obtain ⟨n, k, q, vo, xs, css, hgh, rfl, hnl, hst, m0, m1⟩ := hrel
              have hpw := hst.tk.lt
              have hsz := hst.gr.size
              obtain ⟨vt, Tt, hblk, _, _⟩ := id hst.tk
              obtain ⟨c0, c1, c2, z0, z1, z2⟩ := cells3_of_block hblk
              have Hst := Lib.hid hst
              have M0 := Lib.hid m0
              have M1 := Lib.hid m1
              have Hgh := Lib.hid hgh
              clear hst m0 m1 hgh hblk
              cases q
              rotate_left
              · clear M0
                by_cases hn : 0 < n
                · have i0 : (0 : Int) < (n : Int) := by omega
                  go_wp2
                  go_meet
                  exact ⟨k, true, vo, xs, css, Hst.out, (fun h => by cases h), (fun _ => M1.out (by trivial))⟩
                · have i0 : ¬ (0 : Int) < (n : Int) := by omega
                  go_wp2
                  go_meet
                  exact ⟨k, true, vo, xs, css, Hst.out, (fun h => by cases h), (fun _ => M1.out (by trivial))⟩
              · by_cases hn : n = 0
                · have i0 : ¬ (0 : Int) < (n : Int) := by omega
                  have hfin : Hid (q5 = false ∧ listL sectionL (L.drop k5) = some (xs, L.drop k)) := Lib.hid (by
                    obtain ⟨h1, h2⟩ := M0.out rfl
                    subst hn
                    refine ⟨h1, ?_⟩
                    rw [← h2]
                    simp [timesL])
                  clear M0 M1
                  go_wp2
                  all_goals first | (exfalso; omega) | skip
                  go_meet
                  exact ⟨k, false, vo, xs, css, Hst.out, (fun _ => hfin.out), (fun h => by cases h)⟩
                · have i0 : (0 : Int) < (n : Int) := by omega
                  obtain ⟨m, rfl⟩ : ∃ m, n = m + 1 := ⟨n - 1, by omega⟩
                  have Hq5 := Lib.hid (M0.out rfl).1
                  have Ht := Lib.hid (M0.out rfl).2
                  clear M0 M1 hn
                  go_wp2_with fail
                  refine tText_any (w.heap.size + 1) L k false _ Hst.out.tk hLb _ (fun s k2 q2 hs a0 a1 w2 hg2 ht2 => ?_)
                  have hz2 := hg2.size
                  obtain ⟨W2, hW2⟩ : ∃ W2, W2 = w2.alloc (Obj.cells #[.string s, .slice none 0 0, .slice none 0 0] 64) := ⟨_, rfl⟩
                  have hG2 : W2.heap[w2.heap.size]? = some (.cells #[.string s, .slice none 0 0, .slice none 0 0] 64 (0, 0)) := by subst hW2; exact heap_alloc_new _ _
                  have hzW2 : W2.heap.size = w2.heap.size + 1 := by subst hW2; simp
                  have hT2 : Tk W2 (w.heap.size + 1) L k2 q2 := by subst hW2; exact ht2.other ((Below.refl _ _).alloc (Nat.le_refl _) _)
                  have hgr2 : Grew (fun b => b = w.heap.size + 1) wr W2 := by subst hW2; exact ((Grew.of_grown hg2).more fun j _ e => (Option.some.inj e).symm).alloc _
                  have HG2 := Lib.hid hG2
                  have HT2 := Lib.hid hT2
                  have Hgr2 := Lib.hid hgr2
                  have HW2 := Lib.hid hW2.symm
                  have A0 := Lib.hid a0
                  have A1 := Lib.hid a1
                  have hpG : w.heap.size + 1 < w2.heap.size := by omega
                  clear hG2 hT2 hgr2 hW2 a0 a1 hg2 ht2
                  go_wp2_with fail
                  rw [HW2.out]
                  refine tText_any (w.heap.size + 1) L k2 q2 _ HT2.out hLb _ (fun tx k3 q3 htx b0 b1 w3 hg3 ht3 => ?_)
                  have hz3 := hg3.size
                  have hG3 := gr_blk hg3 HG2.out (by omega)
                  obtain ⟨W3c, cap, hcv, hbc, hzc, hcode⟩ := conv_text w3 tx htx
                  have hG3c := (hbc.block _ (blk_lt hG3)).trans hG3
                  obtain ⟨d0, d1, d2, y0, y1, y2⟩ := three_cells hG3c
                  obtain ⟨W3, hW3⟩ : ∃ W3, W3 = W3c.setCell ⟨w2.heap.size, 1, none⟩ (.slice (some ⟨w3.heap.size, 0, none⟩) tx.size cap) := ⟨_, rfl⟩
                  have hzW3 : W3.heap.size = w3.heap.size + 1 := by subst hW3; simp [World.setCell, hzc]
                  have hG3' : W3.heap[w2.heap.size]? = some (.cells #[.string s, .slice (some ⟨w3.heap.size, 0, none⟩) tx.size cap, .slice none 0 0] 64 (0, 0)) := by subst hW3; exact (three_set hG3c).2.1 _
                  have hT3 : Tk W3 (w.heap.size + 1) L k3 q3 := by subst hW3; exact tk_far (ht3.other hbc) (grown_setCell W3c ⟨w2.heap.size, 1, none⟩ _) hpG
                  have hgr3 : Grew (fun b => b = w.heap.size + 1) wr W3 := by
                    subst hW3
                    exact ((Hgr2.out.trans (Grew.of_grown hg3) fun j _ e => (Option.some.inj e).symm).on hbc).setCell _ (.inr (by show _ ≤ w2.heap.size; omega)) _
                  have hcode3 : rpByte.SLF W3 w3.heap.size W3.heap.size tx.data.toList (.slice (some ⟨w3.heap.size, 0, none⟩) tx.size cap) := by subst hW3; exact (hcode.setCell _ (by show w2.heap.size < _; omega) _).more (Nat.le_refl _) (by simp [World.setCell])
                  have HG3 := Lib.hid hG3'
                  have HT3 := Lib.hid hT3
                  have Hgr3 := Lib.hid hgr3
                  have HW3 := Lib.hid hW3.symm
                  have Hcode3 := Lib.hid hcode3
                  have B0 := Lib.hid b0
                  have B1 := Lib.hid b1
                  have hGl3 : w2.heap.size < W3c.heap.size := by omega
                  clear hG3 hG3' hG3c hT3 hgr3 hW3 b0 b1 hg3 ht3 hbc hcode hcode3
                  go_wp2_with fail
                  rw [HW3.out]
                  refine tSmall_any (w.heap.size + 1) L k3 q3 _ HT3.out (by omega) _ (fun nj k4 q4 hnj e0 e1 w4 hg4 ht4 => ?_)
                  have hz4 := hg4.size
                  have hG4 := gr_blk hg4 HG3.out (by omega)
                  have hgr4 : Grew (fun b => b = w.heap.size + 1) wr w4 := Hgr3.out.trans (Grew.of_grown hg4) fun j _ e => (Option.some.inj e).symm
                  have hcode4 : rpByte.SLF w4 w3.heap.size W3.heap.size tx.data.toList (.slice (some ⟨w3.heap.size, 0, none⟩) tx.size cap) := Hcode3.out.keepB fun j h1 h2 => hg4.block j h2 (by intro e; injection e with e; omega)
                  obtain ⟨mid, hmid⟩ : ∃ mid, mid = Value.slice (some ⟨w3.heap.size, 0, none⟩) tx.size cap := ⟨_, rfl⟩
                  have hin : St rpMend 69 64 (fun v => #[.string s, .slice (some ⟨w3.heap.size, 0, none⟩) tx.size cap, v]) (w.heap.size + 1) w2.heap.size L w4 w4 k4 q4 (.slice none 0 0) [] [] := St.begin ht4 hG4
                  have E0 : Hid (q4 = false → q3 = false ∧ (timesL mendL nj (L.drop k4)).map (fun y => (([] : List Mend) ++ y.1, y.2)) = listL mendL (L.drop k3)) := Lib.hid fun hq => by
                    refine ⟨(e0 hq).1, ?_⟩
                    rw [← listR_eq mendL_short (by rw [List.length_drop]; omega)]
                    unfold listR
                    rw [(e0 hq).2]
                    show _ = timesL mendL nj _
                    cases timesL mendL nj (L.drop k4) <;> rfl
                  have E1 : Hid (q4 = true → q3 = true ∨ listL mendL (L.drop k3) = none) := Lib.hid fun hq => by
                    rw [← listR_eq mendL_short (by rw [List.length_drop]; omega)]
                    rcases e1 hq with h | h
                    · exact .inl h
                    · right
                      unfold listR
                      rw [h]
                      rfl
                  have Hin := Lib.hid hin
                  have Hgr4 := Lib.hid hgr4
                  have Hcode4 := Lib.hid hcode4
                  have hGl4 : w2.heap.size < w4.heap.size := by omega
                  have hCl4 : w3.heap.size < w4.heap.size := by omega
                  clear hin hgr4 e0 e1 hg4 ht4 hG4 d0 d1 d2 y0 y1 y2 c0 c1 c2 z0 z1 z2 hGl3 hcode4 hmid hcv
                  go_upto_block 6 with fail
                  go_cut [] (fun wx => ∃ (k : Nat) (q : Bool) (v : Value) (ys : List Mend) (css : List (List Value)), St rpMend 69 64 (fun v => #[.string s, .slice (some ⟨w3.heap.size, 0, none⟩) tx.size cap, v]) (w.heap.size + 1) w2.heap.size L w4 wx k q v ys css ∧ (q = false → q3 = false ∧ listL mendL (L.drop k3) = some (ys, L.drop k)) ∧ (q = true → q3 = true ∨ listL mendL (L.drop k3) = none))
                  case first =>
                    go_wp2_with fail
                    go_loopg [14, 15] nj (fun gh s14 s15 wi => ∃ (n k : Nat) (q : Bool) (v : Value) (ys : List Mend) (css : List (List Value)), gh = n ∧ s14 = .int .i64 (n : Int) ∧ n + ys.length ≤ 90000 ∧ St rpMend 69 64 (fun v => #[.string s, .slice (some ⟨w3.heap.size, 0, none⟩) tx.size cap, v]) (w.heap.size + 1) w2.heap.size L w4 wi k q v ys css ∧
                      (q = false → q3 = false ∧ (timesL mendL n (L.drop k)).map (fun y => (ys ++ y.1, y.2)) = listL mendL (L.drop k3)) ∧ (q = true → q3 = true ∨ listL mendL (L.drop k3) = none))
                    case atStart => exact ⟨nj, k4, q4, _, [], [], rfl, rfl, by simp; omega, Hin.out, E0.out, E1.out⟩
                    case round =>
                      rename World => wi
                      obtain ⟨n, kk, q, vi, ys, cssi, hgh2, rfl, hnl2, hsti, m2, m3⟩ := hrel
                      have hpi := hsti.tk.lt
                      have hszi := hsti.gr.size
                      obtain ⟨vt, Tt, hblk, _, _⟩ := id hsti.tk
                      obtain ⟨c0, c1, c2, z0, z1, z2⟩ := cells3_of_block hblk
                      have Hsti := Lib.hid hsti
                      have M2 := Lib.hid m2
                      have M3 := Lib.hid m3
                      have Hgh2 := Lib.hid hgh2
                      clear hsti m2 m3 hgh2 hblk
                      cases q
                      rotate_left
                      · clear M2
                        by_cases hn : 0 < n
                        · have i0 : (0 : Int) < (n : Int) := by omega
                          go_wp2
                          go_meet
                          exact ⟨kk, true, vi, ys, cssi, Hsti.out, (fun h => by cases h), (fun _ => M3.out (by trivial))⟩
                        · have i0 : ¬ (0 : Int) < (n : Int) := by omega
                          go_wp2
                          go_meet
                          exact ⟨kk, true, vi, ys, cssi, Hsti.out, (fun h => by cases h), (fun _ => M3.out (by trivial))⟩
                      · by_cases hn : n = 0
                        · have i0 : ¬ (0 : Int) < (n : Int) := by omega
                          have hfin : Hid (q3 = false ∧ listL mendL (L.drop k3) = some (ys, L.drop kk)) := Lib.hid (by
                            obtain ⟨h1, h2⟩ := M2.out rfl
                            subst hn
                            refine ⟨h1, ?_⟩
                            rw [← h2]
                            simp [timesL])
                          clear M2 M3
                          go_wp2
                          all_goals first | (exfalso; omega) | skip
                          go_meet
                          exact ⟨kk, false, vi, ys, cssi, Hsti.out, (fun _ => hfin.out), (fun h => by cases h)⟩
                        · have i0 : (0 : Int) < (n : Int) := by omega
                          obtain ⟨m', rfl⟩ : ∃ m, n = m + 1 := ⟨n - 1, by omega⟩
                          have Hq3 := Lib.hid (M2.out rfl).1
                          have Ht2 := Lib.hid (M2.out rfl).2
                          clear M2 M3 hn
                          go_wp2_with fail
                          refine tSmall_any (w.heap.size + 1) L kk false _ Hsti.out.tk (by omega) _ (fun z ka qa hza0 f0 f1 w5 hg5 ht5 => ?_)
                          have hz5 := hg5.size
                          obtain ⟨W5, hW5⟩ : ∃ W5, W5 = w5.alloc (Obj.cells #[.int .i64 (z : Int), .string ⟨#[]⟩] 69) := ⟨_, rfl⟩
                          have hM5 : W5.heap[w5.heap.size]? = some (.cells #[.int .i64 (z : Int), .string ⟨#[]⟩] 69 (0, 0)) := by subst hW5; exact heap_alloc_new _ _
                          have hzW5 : W5.heap.size = w5.heap.size + 1 := by subst hW5; simp
                          have hT5 : Tk W5 (w.heap.size + 1) L ka qa := by subst hW5; exact ht5.other ((Below.refl _ _).alloc (Nat.le_refl _) _)
                          have hgr5 : Grew (fun b => b = w.heap.size + 1) wi W5 := by subst hW5; exact ((Grew.of_grown hg5).more fun j _ e => (Option.some.inj e).symm).alloc _
                          have HM5 := Lib.hid hM5
                          have HT5 := Lib.hid hT5
                          have Hgr5 := Lib.hid hgr5
                          have HW5 := Lib.hid hW5.symm
                          have F0 := Lib.hid f0
                          have F1 := Lib.hid f1
                          clear hM5 hT5 hgr5 hW5 f0 f1 hg5 ht5
                          go_wp2_with fail
                          rw [HW5.out]
                          refine tText_any (w.heap.size + 1) L ka qa _ HT5.out hLb _ (fun s2 kx qx hs2 f2 f3 w6' hg6 ht6 => ?_)
                          have hz6' := hg6.size
                          have hM6 := gr_blk hg6 HM5.out (by omega)
                          obtain ⟨u0, u1, v0, v1⟩ := cells_of_block hM6
                          have hst6 : Hid (St rpMend 69 64 (fun v => #[.string s, .slice (some ⟨w3.heap.size, 0, none⟩) tx.size cap, v]) (w.heap.size + 1) w2.heap.size L w4 (w6'.setCell ⟨w5.heap.size, 1, none⟩ (.string s2)) kx qx vi ys cssi) := Lib.hid (by
                            refine Hsti.out.take hpG hGl4 ((Hgr5.out.trans (Grew.of_grown hg6) fun j _ e => (Option.some.inj e).symm).setCell _ (.inr (by show _ ≤ w5.heap.size; omega)) _) ?_
                            exact tk_far ht6 (grown_setCell w6' ⟨w5.heap.size, 1, none⟩ _) (by show _ < w5.heap.size; omega))
                          obtain ⟨A5, n5, hu5⟩ : ∃ A c, vi = .slice A ys.length c := own_slice hst6.out.bu.own
                          subst hu5
                          obtain ⟨W6, hW6⟩ : ∃ W6, W6 = w6'.setCell ⟨w5.heap.size, 1, none⟩ (.string s2) := ⟨_, rfl⟩
                          rw [← hW6] at hst6
                          have hM7 : W6.heap[w5.heap.size]? = some (.cells #[.int .i64 (z : Int), .string s2] 69 (0, 0)) := by subst hW6; exact blk_set1 hM6 _
                          have hzW6 : W6.heap.size = w6'.heap.size := by subst hW6; simp [World.setCell]
                          obtain ⟨l0, l1⟩ := two_read (A := smallL) (B := textL) (C := mendL) (f := fun a b => (⟨(a : Int), b⟩ : Mend)) (bad := false) (bs := L.drop kk) (fun bs => rfl) (fun h => by simpa using F0.out h) (fun h => by simpa using F1.out h) f2 f3
                          have K0 : Hid (qx = false → q3 = false ∧ (timesL mendL m' (L.drop kx)).map (fun y => ((ys ++ [(⟨(z : Int), s2⟩ : Mend)]) ++ y.1, y.2)) = listL mendL (L.drop k3)) := Lib.hid fun hq => by
                            refine ⟨Hq3.out, ?_⟩
                            rw [← timesL_step (l0 hq).2]
                            exact Ht2.out
                          have K1 : Hid (qx = true → q3 = true ∨ listL mendL (L.drop k3) = none) := Lib.hid fun hq => by
                            rcases l1 hq with h | h
                            · cases h
                            · right
                              have := Ht2.out
                              rw [timesL_none h] at this
                              exact this.symm
                          have hGl6 : w2.heap.size < w6'.heap.size := by omega
                          have hMl6 : w5.heap.size < w6'.heap.size := by omega
                          have hMG : w2.heap.size < w5.heap.size := by omega
                          have HW6 := Lib.hid hW6.symm
                          clear hg6 ht6 hM6 f2 f3 l0 l1 c0 c1 c2 z0 z1 z2 hW6
                          go_upto_region 30 with fail
                          rw [HW6.out]
                          clear u0 u1 v0 v1
                          obtain ⟨u0, u1, v0, v1⟩ := cells_of_block hM7
                          obtain ⟨t0, t1, t2, y0, y1, y2⟩ := three_cells hst6.out.gb
                          have hGl7 : w2.heap.size < W6.heap.size := by omega
                          have hMl7 : w5.heap.size < W6.heap.size := by omega
                          have hW : Hid ((W6.alloc (Obj.cells #[.int .i64 (z : Int), .string s2] 69)).ownsRow w4.heap.size 69 2 (.slice A5 ys.length n5) ys.length cssi.flatten) := Lib.hid (hst6.out.bu.alloc _).own
                          clear hM7 hzW6
                          go_wp2_with (at_builtin; refine wpList_append_lies _ rfl _ _ 62 rfl w4.heap.size 69 iM _ 2 24 Tryd.underlying62 hiM zM0 zM1 zM2 rfl (by decide) (.slice A5 ys.length n5) ys.length cssi.flatten rfl hW.out ⟨W6.heap.size, 0, none⟩ 1 1 [.int .i64 (z : Int), .string s2] rfl rfl ?_ ?_ (by decide) ?_ ?_ ?_ _ rfl ?_)
                          any_goals (first | exact World.news_of_block (cs := #[.int .i64 (z : Int), .string s2]) (t := 69) (fr := (0, 0)) (heap_alloc_new _ _) | (simp [Value.oneCell']; done) | (unfold maxLen; omega) | omega | (simp; done) | (simp; omega))
                          intro gb cap2 w7 hown7 hgrow7 hat7 hlt7
                          obtain ⟨hG7, hst7⟩ := hst6.out.push hpG hGl4 (Obj.cells #[.int .i64 (z : Int), .string s2] 69) (x := (⟨(z : Int), s2⟩ : Mend)) (cs := [.int .i64 (z : Int), .string s2]) (j := 2) (fun _ _ => rfl) (Apart.plain (fun _ _ => rpMend_rep.2 rfl)) hown7 rfl hgrow7 (by simpa using hat7)
                          obtain ⟨t0, t1, t2, y0, y1, y2⟩ := three_cells hG7
                          have Hst7 := Lib.hid hst7
                          clear hst7 hown7 hgrow7 hat7 hG7
                          go_wp2
                          go_roundg m'
                          case measure => have := Hgh2.out; omega
                          case rel => exact ⟨m', kx, qx, _, _, _, rfl, by go_num, by simp; omega, Hst7.out, K0.out, K1.out⟩
                  case rest =>
                    rename World => wx
                    obtain ⟨kx, qx, vi, ys, cssi, hsti, f0, f1⟩ := hcut
                    have hszi := hsti.gr.size
                    have hgi := hsti.far Hgr4.out (by omega)
                    have hsto := Hst.out.take (by omega) (by omega) hgi hsti.tk
                    obtain ⟨A6, n6', hu6⟩ : ∃ A c, vi = .slice A ys.length c := own_slice hsti.bu.own
                    subst hu6
                    obtain ⟨A7, n7, hu7⟩ : ∃ A c, vo = .slice A xs.length c := own_slice hsto.bu.own
                    subst hu7
                    obtain ⟨l0, l1⟩ := three_read (A := textL) (B := textL) (C := listL mendL) (D := sectionL) (f := fun a b c => (⟨a, b.data.toList, c⟩ : Section)) (bad := false) (bs := L.drop k) (fun bs => rfl) (fun h => by simpa using A0.out h) (fun h => by simpa using A1.out h) B0.out B1.out f0 f1
                    have P0 : Hid (qx = false → q5 = false ∧ (timesL sectionL m (L.drop kx)).map (fun y => ((xs ++ [(⟨s, tx.data.toList, ys⟩ : Section)]) ++ y.1, y.2)) = listL sectionL (L.drop k5)) := Lib.hid fun hq => by
                      refine ⟨Hq5.out, ?_⟩
                      rw [← timesL_step (l0 hq).2]
                      exact Ht.out
                    have P1 : Hid (qx = true → q5 = true ∨ listL sectionL (L.drop k5) = none) := Lib.hid fun hq => by
                      rcases l1 hq with h | h
                      · cases h
                      · right
                        have := Ht.out
                        rw [timesL_none h] at this
                        exact this.symm
                    have hcx : rpByte.SLF wx w3.heap.size W3.heap.size tx.data.toList (.slice (some ⟨w3.heap.size, 0, none⟩) tx.size cap) := Hcode4.out.keepB fun j h1 h2 => hsti.gr.block j (by omega) (by omega)
                    have hAp : Apart rpSection (fun b => b < w6.heap.size) (wx.alloc (Obj.cells #[.string s, .slice (some ⟨w3.heap.size, 0, none⟩) tx.size cap, .slice A6 ys.length n6'] 64)) (.slice A7 xs.length n7) (⟨s, tx.data.toList, ys⟩ : Section) [.string s, .slice (some ⟨w3.heap.size, 0, none⟩) tx.size cap, .slice A6 ys.length n6'] := by
                      refine Apart.of_only (base := w3.heap.size) (rpSection_mk ?_ ?_) (fun j hj => by omega) (fun j hj => ?_)
                      · exact (hcx.keepB (w' := wx.alloc _) fun j h1 h2 => Below.heap_alloc _ _ _ (by omega)).more (Nat.le_refl _) (by simp; omega)
                      · exact ((hsti.bu.SLF (b := w4.heap.size) (B := wx.heap.size) (fun _ h => h) (Nat.le_refl _) (Nat.le_refl _)).below ((Below.refl _ _).alloc (Nat.le_refl _) _) (Nat.le_refl _)).more (by omega) (by simp)
                      · have := (Hst.out.bu.own.lt _ hj).2
                        omega
                    have hW : Hid ((wx.alloc (Obj.cells #[.string s, .slice (some ⟨w3.heap.size, 0, none⟩) tx.size cap, .slice A6 ys.length n6'] 64)).ownsRow w6.heap.size 64 3 (.slice A7 xs.length n7) xs.length css.flatten) := Lib.hid (hsto.bu.alloc _).own
                    obtain ⟨d0, d1, d2, y0, y1, y2⟩ := three_cells hsti.gb
                    obtain ⟨o0, o1, x0, x1⟩ := cells_of_block hsto.gb
                    have HAp := Lib.hid hAp
                    have Hsto := Lib.hid hsto
                    have hOl : w.heap.size + 1 + 1 < w6.heap.size := by omega
                    have hOx : w.heap.size + 1 + 1 < wx.heap.size := by omega
                    have hGx : w2.heap.size < wx.heap.size := by omega
                    clear hsti hgi hsto l0 l1 hAp f0 f1 hcx
                    go_wp2_with (at_builtin; refine wpList_append_lies _ rfl _ _ 45 rfl w6.heap.size 64 iS _ 3 64 Tryd.underlying45 hiS zS0 zS1 zS2 rfl (by decide) (.slice A7 xs.length n7) xs.length css.flatten rfl hW.out ⟨wx.heap.size, 0, none⟩ 1 1 [.string s, .slice (some ⟨w3.heap.size, 0, none⟩) tx.size cap, .slice A6 ys.length n6'] rfl rfl ?_ ?_ (by decide) ?_ ?_ ?_ _ rfl ?_)
                    any_goals (first | exact World.news_of_block (cs := #[.string s, .slice (some ⟨w3.heap.size, 0, none⟩) tx.size cap, .slice A6 ys.length n6']) (t := 64) (fr := (0, 0)) (heap_alloc_new _ _) | (simp [Value.oneCell']; done) | (unfold maxLen; omega) | omega | (simp; done) | (simp; omega))
                    intro gb cap2 w7 hown7 hgrow7 hat7 hlt7
                    obtain ⟨hO7, hst7⟩ := Hsto.out.push (by omega) hOl (Obj.cells #[.string s, .slice (some ⟨w3.heap.size, 0, none⟩) tx.size cap, .slice A6 ys.length n6'] 64) (j := 1) (fun _ _ => rfl) HAp.out hown7 rfl hgrow7 (by simpa using hat7)
                    obtain ⟨o0, o1, x0, x1⟩ := cells_of_block hO7
                    have Hst7 := Lib.hid hst7
                    clear hst7 hown7 hgrow7 hat7 hO7
                    go_wp2
                    go_roundg m
                    case measure => have := Hgh.out; omega
                    case rel => exact ⟨m, kx, qx, _, _, _, rfl, by go_num, by simp; omega, Hst7.out, P0.out, P1.out⟩
          case rest =>
            rename World => wz
            obtain ⟨kz, qz, vs, ss, csss, hsts, h0, h1⟩ := hcut
            have hszz := hsts.gr.size
            obtain ⟨A9, n9, hu9⟩ : ∃ A c, vs = .slice A ss.length c := own_slice hsts.bu.own
            subst hu9
            have hkz := hsts.tk.le
            have hKz := hKK.out
            have hgrz : Grew (fun b => b = w.heap.size + 1 ∨ b = w.heap.size + 1 + 1) W0 wz := Hgr6.out.trans hsts.gr fun j _ e => e
            have hQz : wz.heap[w.heap.size]? = some (.cells #[.slice none 0 0, .slice none 0 0] 47 (0, 0)) := (hgrz.block _ (by omega) (by omega)).trans HQ0.out
            have hbz : Below w.heap.size w wz := Hb0.out.trans (hgrz.below (fun j hj => by omega) (by omega))
            have hsgz : rpGlobal.SLF wz W0.heap.size wy.heap.size gs (.slice A8 gs.length n8) := Hsg6.out.keepB fun j h1 h2 => hsts.gr.block j (by omega) (by omega)
            have hssz : rpSection.SLF wz w6.heap.size wz.heap.size ss (.slice A9 ss.length n9) := hsts.bu.SLF (fun _ h => h) (Nat.le_refl _) (Nat.le_refl _)
            have hObj : qz = true ∨ kz ≠ K → loadedL bs = none := fun hx => by
              rw [HLq.out]
              unfold objectL
              cases q5 with
              | true => rw [G1.out (by trivial)]; rfl
              | false =>
                rw [G0.out (by trivial)]
                simp only [Option.bind_some]
                cases qz with
                | true =>
                  rcases h1 rfl with h | h
                  · cases h
                  · rw [h]
                    rfl
                | false =>
                  rw [(h0 rfl).2]
                  simp only [Option.bind_some]
                  rw [if_neg]
                  intro e
                  have e2 := congrArg List.length e
                  rw [List.length_drop] at e2
                  simp at e2
                  rcases hx with hx | hx
                  · cases hx
                  · omega
            have hyes : qz = false → kz = K → loadedL bs = some ⟨gs, ss⟩ := fun hq hk => by
              obtain ⟨e1, e2⟩ := h0 hq
              rw [HLq.out]
              unfold objectL
              rw [G0.out e1]
              simp only [Option.bind_some]
              rw [e2]
              simp only [Option.bind_some]
              rw [if_pos (List.drop_eq_nil_of_le (by omega))]
            obtain ⟨o0, o1, x0, x1⟩ := cells_of_block hsts.gb
            obtain ⟨p0, p1, y0, y1⟩ := cells_of_block hQz
            obtain ⟨vt, Tt, hblk, _, _⟩ := id hsts.tk
            obtain ⟨c0, c1, c2, z0, z1, z2⟩ := cells3_of_block hblk
            have HQz := Lib.hid hQz
            have Hbz := Lib.hid hbz
            have Hsgz := Lib.hid hsgz
            have Hssz := Lib.hid hssz
            have HObj := Lib.hid hObj
            have Hyes := Lib.hid hyes
            have hl1 : w.heap.size < wz.heap.size := by omega
            have hl2 : w.heap.size + 1 < wz.heap.size := by omega
            have hl3 : w.heap.size + 1 + 1 < wz.heap.size := by omega
            clear hsts h0 h1 hgrz hQz hbz hsgz hssz hObj hyes hblk
            cases qz
            · by_cases hk : kz = K
              · have hf := Lib.hid (Hsome.out _ (Hyes.out rfl hk))
                have heq : ((kz : Int) == (bs.length : Int) - 2) = true := by have := HK.out; simp; omega
                clear HObj Hyes hk
                go_wp2
                go_region
                all_goals
                  go_wp2
                  refine bodyPost_ret (v := .tuple #[.agg #[.slice A8 gs.length n8, .slice A9 ss.length n9], .bool true]) (res_ObjB (T := 47) (by rfl) (by rfl) (by rfl) ?_) rfl ?_
                  · exact (blkp HQz.out)
                  · refine hf.out _ _ _ ?_ ?_ ?_
                    · have hb := Hbz.out
                      exact bl0
                    · refine (Hsgz.out.keepB fun k hk1 hk2 => ?_).more (by omega) (by simp [World.setCell]; omega)
                      obtain ⟨X, hX⟩ : ∃ X, wz.heap[k]? = some X := ⟨_, Array.getElem?_eq_getElem (by omega)⟩
                      rw [hX]
                      exact (blkp hX)
                    · refine (Hssz.out.keepB fun k hk1 hk2 => ?_).more (by omega) (by simp [World.setCell])
                      obtain ⟨X, hX⟩ : ∃ X, wz.heap[k]? = some X := ⟨_, Array.getElem?_eq_getElem (by omega)⟩
                      rw [hX]
                      exact (blkp hX)
              · have hf := Lib.hid (Hnone.out (HObj.out (.inr hk)))
                have heq : ((kz : Int) == (bs.length : Int) - 2) = false := by have := HK.out; simp; omega
                clear HObj Hyes hk
                go_wp2
                go_region
                all_goals
                  go_wp2
                  refine bodyPost_ret (v := .tuple #[.agg #[.slice A8 gs.length n8, .slice A9 ss.length n9], .bool false]) (res_ObjB (T := 47) (by rfl) (by rfl) (by rfl) ?_) rfl ?_
                  · exact (blkp HQz.out)
                  · refine hf.out _ _ _ _ _ _ _ ?_
                    have hb := Hbz.out
                    exact bl0
            · have hf := Lib.hid (Hnone.out (HObj.out (.inl rfl)))
              clear HObj Hyes
              go_wp2
              go_region
              all_goals
                go_wp2
                refine bodyPost_ret (v := .tuple #[.agg #[.slice A8 gs.length n8, .slice A9 ss.length n9], .bool false]) (res_ObjB (T := 47) (by rfl) (by rfl) (by rfl) ?_) rfl ?_
                · exact (blkp HQz.out)
                · refine hf.out _ _ _ _ _ _ _ ?_
                  have hb := Hbz.out
                  exact bl0
end Go.Proofs.YtfhnmbnniklmiaaDoor
