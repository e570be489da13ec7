/- The reference's taker: its numbers, small ones, texts. -/
import Derived.Test.YtkodcoianakjoaaDoorBase
import Derived.Test.YtkodcoianakjoaaDoorRows
import Derived.IntWalk
import Derived.Deep.LoopGhost
import Derived.Outline
import Derived.Lib.ConvBytes
import Derived.Test.YtkodcoianakjoaaDoorRefA
import Derived.Test.YtkodcoianakjoaaDoorLoaded
import Derived.Test.YtkodcoianakjoaaDoorTakeP
namespace Go.Proofs.YtkodcoianakjoaaDoor
open Go.RowKit
set_option linter.unusedSimpArgs false
set_option linter.unusedVariables false

/-- A taker lies in block p: the bytes, the place, and whether something did not stand there. -/
def Tk (w : World) (p : Nat) (bs : List UInt8) (k : Nat) (bad : Bool) : Prop := ∃ v T, w.heap[p]? = some (.cells #[v, .int .i64 (k : Int), .bool bad] T (0, 0)) ∧ rpByte.SL w p bs v ∧ k ≤ bs.length
theorem Tk.lt {w : World} {p k : Nat} {bs : List UInt8} {bad : Bool} (h : Tk w p bs k bad) : p < w.heap.size := by
  obtain ⟨v, T, h, _⟩ := h
  exact (Array.getElem?_eq_some_iff.1 h).1
theorem Tk.le {w : World} {p k : Nat} {bs : List UInt8} {bad : Bool} (h : Tk w p bs k bad) : k ≤ bs.length := by
  obtain ⟨v, T, _, _, h⟩ := h
  exact h
theorem Tk.other {w w' : World} {p k : Nat} {bs : List UInt8} {bad : Bool} (h : Tk w p bs k bad) (hb : Below w.heap.size w w') : Tk w' p bs k bad := by
  have hl := h.lt
  obtain ⟨v, T, h1, h2, h3⟩ := h
  exact ⟨v, T, (hb.block p hl).trans h1, h2.keep fun q hq => hb.cell (by omega), h3⟩
theorem tk_far {w w' : World} {p b k : Nat} {bs : List UInt8} {bad : Bool} (h : Tk w p bs k bad) (hg : w.grownBy w' (some b)) (hb : p < b) : Tk w' p bs k bad := by
  have hl := h.lt
  obtain ⟨v, T, h1, h2, h3⟩ := h
  exact ⟨v, T, (hg.block p hl (by intro e; injection e with e; omega)).trans h1, h2.keep fun q hq => World.cell?_of_block (hg.block _ (by omega) (by intro e; injection e with e; omega)), h3⟩
theorem cells3_of_block {w : World} {p : Nat} {u v x : Value} {T : TypeId} (h : w.heap[p]? = some (.cells #[u, v, x] T (0, 0))) : w.cell? ⟨p, 0, none⟩ = some u ∧ w.cell? ⟨p, 1, none⟩ = some v ∧ w.cell? ⟨p, 2, none⟩ = some x ∧ w.frozen? ⟨p, 0, none⟩ = false ∧ w.frozen? ⟨p, 1, none⟩ = false ∧ w.frozen? ⟨p, 2, none⟩ = false := by
  refine ⟨?_, ?_, ?_, ?_, ?_, ?_⟩ <;> simp [World.cell?, World.frozen?, h]
theorem Tk.step {w : World} {p k k' : Nat} {bs : List UInt8} {bad : Bool} (h : Tk w p bs k bad) (hk : k' ≤ bs.length) {x : Int} (hx : x = (k' : Int)) : Tk (w.setCell ⟨p, 1, none⟩ (.int .i64 x)) p bs k' bad := by
  have hl := h.lt
  obtain ⟨v, T, h1, h2, h3⟩ := h
  subst hx
  exact ⟨v, T, by rw [block_set h1]; rfl, SL_grown h2 (grown_setCell w ⟨p, 1, none⟩ _) (by omega), hk⟩
theorem Tk.fell {w : World} {p k : Nat} {bs : List UInt8} {bad : Bool} (h : Tk w p bs k bad) : Tk (w.setCell ⟨p, 2, none⟩ (.bool true)) p bs k true := by
  have hl := h.lt
  obtain ⟨v, T, h1, h2, h3⟩ := h
  exact ⟨v, T, by rw [block_set h1]; rfl, SL_grown h2 (grown_setCell w ⟨p, 2, none⟩ _) (by omega), h3⟩

set_option maxRecDepth 100000 in
set_option maxHeartbeats 4000000 in
theorem tNumber_any (p : Nat) (bs : List UInt8) (k : Nat) (bad : Bool) (w : World) (h : Tk w p bs k bad) (hlen : bs.length ≤ 100000) (R : Ending → World → Prop)
    (hR : ∀ (n k' : Nat) (q : Bool), n < 18446744073709551616 → (q = false → bad = false ∧ numberL (bs.drop k) = some (n, bs.drop k')) → (q = true → bad = true ∨ numberL (bs.drop k) = none) → ∀ w', w.grownBy w' (some p) → Tk w' p bs k' q → R (.returned (.int .u64 (n : Nat))) w') :
    Calls Tryd.prog 72 #[.pointer (some ⟨p, 0, none⟩)] w R := by
  have HR := Lib.hid hR
  have Htk := Lib.hid h
  clear hR h
  go_enter Tryd.func72, Tryd.ntmps72
  go_wp2
  go_loopg [3, 4, 5] 10 (fun g n s b wr => ∃ (i acc j : Nat), i ≤ 9 ∧ g = 10 - i ∧ n = .int .u64 (acc : Int) ∧ s = .int .i64 (i : Int) ∧ acc < 2 ^ (7 * i) ∧ acc < 18446744073709551616 ∧ j = k + i ∧ Tk wr p bs j bad ∧ numL (10 - i) i acc (bs.drop j) = numberL (bs.drop k) ∧ w.grownBy wr (some p))
  case atStart => exact ⟨0, 0, k, by omega, rfl, rfl, rfl, by omega, by omega, rfl, Htk.out, rfl, grown_refl _ _⟩
  case round =>
    obtain ⟨i, acc, j, hi, rfl, rfl, rfl, ha, ha2, hj, htk, hq, hgr⟩ := hrel
    have hpl := htk.lt
    have hjl := htk.le
    obtain ⟨v, T, hblk, hs, _⟩ := id htk
    obtain ⟨c0, c1, c2, z0, z1, z2⟩ := cells3_of_block hblk
    obtain ⟨A, c, rfl, hm, hcap, hs⟩ := hs.cases_
    have Ha := Lib.hid ha
    have Htk1 := Lib.hid htk
    have Hgr := Lib.hid hgr
    have Hj := Lib.hid hj
    have i0 : (0 : Int) ≤ (i : Int) := Int.natCast_nonneg _
    have j0 : (0 : Int) ≤ (j : Int) := Int.natCast_nonneg _
    have j9 : (j : Int) ≤ 100000 := by omega
    have i1 : (i : Int) < 10 := by omega
    clear ha htk hgr hj hblk
    have HF : Hid (∀ (k' : Nat) (wx : World), numberL (bs.drop k) = none → wr.grownBy wx (some p) → Tk wx p bs k' bad → R (.returned (.int .u64 0)) (wx.setCell ⟨p, 2, none⟩ (.bool true))) := Lib.hid fun k' wx hno hg ht =>
      HR.out 0 k' true (by decide) (fun h => by cases h) (fun _ => .inr hno) _ (grown_trans (grown_trans Hgr.out hg) (grown_setCell wx ⟨p, 2, none⟩ _)) ht.fell
    by_cases hlt : j < bs.length
    · obtain ⟨g, off, rfl, hg, q0⟩ := hs.byte_at hlt
      have hstep := drop_cons hlt
      rw [hstep, numL_step (by omega)] at hq
      have hx2 := (bs[j]).toNat_lt
      generalize (bs[j]).toNat = x at *
      have i2 : (j : Int) < (bs.length : Int) := by omega
      have x0 : (0 : Int) ≤ (x : Int) := Int.natCast_nonneg _
      have x1 : (x : Int) < 256 := by omega
      have hw2 : IntKind.i64.wrap ((j : Int) + 1) = (j : Int) + 1 := IntWalk.i64_in _ (by omega)
      have hg2 : ∀ n, wr.grownBy ((wr.drewN n).setCell ⟨p, 1, none⟩ (.int .i64 ((j : Int) + 1))) (some p) := fun n => grown_trans (grown_of_below (below_drewN (Below.refl wr.heap.size wr) n) _) (grown_setCell (wr.drewN n) ⟨p, 1, none⟩ (.int .i64 ((j : Int) + 1)))
      have ht2 : ∀ n, Tk ((wr.drewN n).setCell ⟨p, 1, none⟩ (.int .i64 ((j : Int) + 1))) p bs (j + 1) bad := fun n => (Htk1.out.other (below_drewN (Below.refl wr.heap.size wr) n)).step (k' := j + 1) (by omega) (x := (j : Int) + 1) (by omega)
      have Hg2 := Lib.hid hg2
      have Ht2 := Lib.hid ht2
      clear hs hg2 ht2
      by_cases h9 : i = 9 ∧ 1 < x
      · have hfin := fun n => HF.out (j + 1) _ (by rw [← hq, if_pos (.inl h9)]) (Hg2.out n) (Ht2.out n)
        have Hfin := Lib.hid hfin
        obtain ⟨rfl, h9⟩ := h9
        have x2 : (1 : Int) < (x : Int) := by omega
        clear hfin hstep hq HF
        go_wp2
        go_quiet (fail)
        go_wp2
        go_quiet (fail)
        go_wp2
        exact Hfin.out _
      by_cases hz : x = 0 ∧ 0 < i
      · have hfin := fun n => HF.out (j + 1) _ (by rw [← hq, if_pos (.inr ⟨hz.2, hz.1⟩)]) (Hg2.out n) (Ht2.out n)
        have Hfin := Lib.hid hfin
        obtain ⟨rfl, hz⟩ := hz
        have i3 : (0 : Int) < (i : Int) := by omega
        clear hfin hstep hq h9 HF
        by_cases hi9 : i = 9
        · subst hi9
          go_wp2
          go_quiet (fail)
          go_wp2
          go_quiet (fail)
          go_wp2
          all_goals first | exact Hfin.out _ | (exfalso; omega)
        · have n9 : ((i : Int) == 9) = false := by simp; omega
          clear hi9
          go_wp2
          go_quiet (fail)
          go_wp2
          go_quiet (fail)
          go_wp2
          all_goals first | exact Hfin.out _ | (exfalso; omega)
      have h9' : i = 9 → x < 2 := by omega
      by_cases hx128 : x < 128
      · have hf := acc_fits (x := x) (i := i) (by omega) Ha.out hx128 h9'
        have hxi : (x : Int) < 128 := by omega
        rw [if_neg (by omega), if_pos hx128] at hq
        have hfin : Hid (∀ (nn : Nat) (a : Int), a = ((acc + x * 2 ^ (7 * i) : Nat) : Int) → R (.returned (.int .u64 a)) ((wr.drewN nn).setCell ⟨p, 1, none⟩ (.int .i64 ((j : Int) + 1)))) := Lib.hid fun nn a ha => by
          subst ha
          exact HR.out _ (j + 1) bad hf.2 (fun h => ⟨h, hq.symm⟩) (fun h => .inl h) _ (grown_trans Hgr.out (Hg2.out nn)) (Ht2.out nn)
        have he : Hid (IntKind.u64.wrap ((acc : Int) + IntKind.u64.wrap ((x : Int) % 128 * 2 ^ (7 * i))) = ((acc + x * 2 ^ (7 * i) : Nat) : Int)) := Lib.hid (by
          rw [show ((x : Int) % 128 * 2 ^ (7 * i)) = ((x * 2 ^ (7 * i) : Nat) : Int) from by push_cast; rw [show (x : Int) % 128 = x from by omega]]
          rw [IntKind.wrap_u64, IntKind.wrap_u64]
          omega)
        by_cases hi9 : i = 9
        · subst hi9
          obtain rfl : x = 1 := by omega
          clear hz hf hq h9 h9' hstep hx128 HF
          go_wp2
          go_quiet (fail)
          go_wp2
          go_quiet (fail)
          go_wp2
          all_goals first
          | exact hfin.out _ _ (by rw [IntKind.wrap_u64]; have := Ha.out; simp at this ⊢; omega)
          | (exfalso; omega)
        · have n9 : ((i : Int) == 9) = false := by simp; omega
          have Hz := Lib.hid hz
          clear hf hq h9 h9' hstep hx128 hi9 HF
          rcases Nat.eq_zero_or_pos i with h0 | h0
          · have i00 : ¬ (0 : Int) < (i : Int) := by omega
            clear hz h0
            go_wp2
            go_quiet (fail)
            go_wp2
            go_quiet (fail)
            go_wp2
            all_goals first | exact hfin.out _ _ he.out | exact hfin.out _ _ (by rw [show (x : Int) % 128 = x from by omega]; push_cast; rfl)
          · have i00 : (0 : Int) < (i : Int) := by omega
            have xz : ((x : Int) == 0) = false := by simp; omega
            clear hz h0
            go_wp2
            go_quiet (fail)
            go_wp2
            go_quiet (fail)
            go_wp2
            all_goals first | exact hfin.out _ _ he.out | exact hfin.out _ _ (by rw [show (x : Int) % 128 = x from by omega]; push_cast; rfl)
      · have hf := acc_fits (x := x % 128) (i := i) (by omega) Ha.out (Nat.mod_lt _ (by decide)) (by omega)
        have hxi : ¬ (x : Int) < 128 := by omega
        have n9 : ((i : Int) == 9) = false := by simp; omega
        rw [if_neg (by omega), if_neg hx128, show x - 128 = x % 128 from by omega] at hq
        have he : Hid (IntKind.u64.wrap ((acc : Int) + IntKind.u64.wrap ((x : Int) % 128 * 2 ^ (7 * i))) = ((acc + x % 128 * 2 ^ (7 * i) : Nat) : Int)) := Lib.hid (by
          rw [show ((x : Int) % 128 * 2 ^ (7 * i)) = ((x % 128 * 2 ^ (7 * i) : Nat) : Int) from by push_cast; rfl]
          rw [IntKind.wrap_u64, IntKind.wrap_u64]
          omega)
        have Hf := Lib.hid hf
        have Hq := Lib.hid hq
        have Hi := Lib.hid (show i < 9 by omega)
        have xz : ((x : Int) == 0) = false := by simp; omega
        clear hz hf hq h9 h9' hstep hx128 HF
        rcases Nat.eq_zero_or_pos i with h0 | h0
        · have i00 : ¬ (0 : Int) < (i : Int) := by omega
          clear h0
          go_wp2
          go_quiet (fail)
          go_wp2
          go_quiet (fail)
          go_wp2
          go_roundg (10 - (i + 1))
          case measure => have := Hi.out; omega
          case rel => exact ⟨i + 1, _, j + 1, Hi.out, rfl, by rw [← he.out], by go_num, Hf.out.1, Hf.out.2, by have := Hj.out; omega, Ht2.out _, Hq.out, grown_trans Hgr.out (Hg2.out _)⟩
        · have i00 : (0 : Int) < (i : Int) := by omega
          clear h0
          go_wp2
          go_quiet (fail)
          go_wp2
          go_quiet (fail)
          go_wp2
          go_roundg (10 - (i + 1))
          case measure => have := Hi.out; omega
          case rel => exact ⟨i + 1, _, j + 1, Hi.out, rfl, by rw [← he.out], by go_num, Hf.out.1, Hf.out.2, by have := Hj.out; omega, Ht2.out _, Hq.out, grown_trans Hgr.out (Hg2.out _)⟩
    · have hfin := fun n => HF.out j (wr.drewN n) (by rw [← hq, List.drop_eq_nil_of_le (by omega), numL_nil (by omega)]) (grown_of_below (below_drewN (Below.refl wr.heap.size wr) n) _) (Htk1.out.other (below_drewN (Below.refl wr.heap.size wr) n))
      have Hfin := Lib.hid hfin
      have i2 : ¬ (j : Int) < (bs.length : Int) := by omega
      have i3 : (bs.length : Int) ≤ (j : Int) := by omega
      clear hfin hq HF hs
      go_wp2
      go_quiet (fail)
      go_wp2
      exact Hfin.out _

set_option maxRecDepth 100000 in
set_option maxHeartbeats 4000000 in
theorem tSmall_any (p : Nat) (bs : List UInt8) (k : Nat) (bad : Bool) (w : World) (h : Tk w p bs k bad) (hlen : bs.length ≤ 100000) (R : Ending → World → Prop)
    (hR : ∀ (n k' : Nat) (q : Bool), n ≤ 90000 → (q = false → bad = false ∧ smallL (bs.drop k) = some (n, bs.drop k')) → (q = true → bad = true ∨ smallL (bs.drop k) = none) → ∀ w', w.grownBy w' (some p) → Tk w' p bs k' q → R (.returned (.int .i64 (n : Nat))) w') :
    Calls Tryd.prog 70 #[.pointer (some ⟨p, 0, none⟩)] w R := by
  have HR := Lib.hid hR
  have Htk := Lib.hid h
  clear hR h
  go_enter Tryd.func70, Tryd.ntmps70
  go_wp2_with fail
  refine tNumber_any p bs k bad _ Htk.out hlen _ (fun n k1 q1 hn hq0 hq1 w1 hg1 ht1 => ?_)
  have hlt := ht1.lt
  obtain ⟨v, T, hblk, _, _⟩ := id ht1
  obtain ⟨c0, c1, c2, z0, z1, z2⟩ := cells3_of_block hblk
  have i0 : (0 : Int) ≤ (n : Int) := by omega
  have i1 : (n : Int) ≤ 18446744073709551615 := by omega
  by_cases hle : n ≤ 90000
  · have hgo := HR.out n k1 q1 hle (fun hq => ⟨(hq0 hq).1, smallL_some.2 ⟨(hq0 hq).2, hle⟩⟩) (fun hq => by
      rcases hq1 hq with h | h
      · exact .inl h
      · right
        unfold smallL
        rw [h]
        rfl) w1 hg1 ht1
    have Hgo := Lib.hid hgo
    have hli : ¬ (90000 : Int) < (n : Int) := by omega
    clear hblk ht1 hg1 hgo hq0 hq1
    go_wp2
    exact Hgo.out
  · have hgo := HR.out 0 k1 true (by decide) (fun h => by cases h) (fun _ => by
      cases q1 with
      | true =>
        rcases hq1 rfl with h | h
        · exact .inl h
        · right
          unfold smallL
          rw [h]
          rfl
      | false =>
        right
        unfold smallL
        rw [(hq0 rfl).2]
        simp [hle]) (w1.setCell ⟨p, 2, none⟩ (.bool true)) (grown_trans hg1 (grown_setCell w1 ⟨p, 2, none⟩ _)) ht1.fell
    have Hgo := Lib.hid hgo
    have hli : (90000 : Int) < (n : Int) := by omega
    clear hblk ht1 hg1 hgo hq0 hq1
    go_wp2
    exact Hgo.out

set_option maxRecDepth 100000 in
set_option maxHeartbeats 4000000 in
theorem tText_any (p : Nat) (bs : List UInt8) (k : Nat) (bad : Bool) (w : World) (h : Tk w p bs k bad) (hlen : bs.length ≤ 90000) (R : Ending → World → Prop)
    (hR : ∀ (s : ByteArray) (k' : Nat) (q : Bool), s.size ≤ maxLen → (q = false → bad = false ∧ textL (bs.drop k) = some (s, bs.drop k')) → (q = true → bad = true ∨ textL (bs.drop k) = none) → ∀ w', w.grownBy w' (some p) → Tk w' p bs k' q → R (.returned (.string s)) w') :
    Calls Tryd.prog 71 #[.pointer (some ⟨p, 0, none⟩)] w R := by
  have HR := Lib.hid hR
  have Htk := Lib.hid h
  clear hR h
  go_enter Tryd.func71, Tryd.ntmps71
  go_wp2_with fail
  refine tSmall_any p bs k bad _ Htk.out (by omega) _ (fun n k1 q1 hn hq0 hq1 w1 hg1 ht1 => ?_)
  have hlt := ht1.lt
  have hk1 := ht1.le
  obtain ⟨v, T, hblk, hs, _⟩ := id ht1
  obtain ⟨c0, c1, c2, z0, z1, z2⟩ := cells3_of_block hblk
  obtain ⟨A, c, rfl, hm, hcap, hs⟩ := hs.cases_
  have i0 : (0 : Int) ≤ (n : Int) := by omega
  have i1 : (n : Int) ≤ 90000 := by omega
  have j0 : (0 : Int) ≤ (k1 : Int) := by omega
  have j1 : (k1 : Int) ≤ 100000 := by omega
  have e1 : (bs.drop k1).length = bs.length - k1 := List.length_drop
  have hw : IntKind.i64.wrap ((k1 : Int) + (n : Int)) = (k1 : Int) + (n : Int) := IntWalk.i64_in _ (by omega)
  by_cases hle : k1 + n ≤ bs.length
  · have hgo : ∀ w', w1.grownBy w' (some p) → Tk w' p bs (k1 + n) q1 → R (.returned (.string (strL ((bs.drop k1).take n)))) w' := fun w' hg ht =>
      HR.out _ (k1 + n) q1 (by rw [strL_size, List.length_take]; unfold maxLen; omega) (fun hq => ⟨(hq0 hq).1, by
        rw [← textR_eq (by rw [List.length_drop]; omega)]
        unfold textR
        rw [(hq0 hq).2]
        simp only [Option.bind_some]
        rw [if_pos (by omega), List.drop_drop]⟩) (fun hq => by
        rcases hq1 hq with h | h
        · exact .inl h
        · right
          rw [← textR_eq (by rw [List.length_drop]; omega)]
          unfold textR
          rw [h]
          rfl) w' (grown_trans hg1 hg) ht
    have Hgo := Lib.hid hgo
    have Ht1 := Lib.hid ht1
    have hfin := fun nn => Hgo.out ((w1.drewN nn).setCell ⟨p, 1, none⟩ (.int .i64 ((k1 : Int) + (n : Int)))) (grown_trans (grown_of_below (below_drewN (Below.refl w1.heap.size w1) nn) _) (grown_setCell (w1.drewN nn) ⟨p, 1, none⟩ (.int .i64 ((k1 : Int) + (n : Int))))) ((Ht1.out.other (below_drewN (Below.refl w1.heap.size w1) nn)).step (by omega) (by omega))
    have Hfin := Lib.hid hfin
    have hli : ¬ (bs.length : Int) < (k1 : Int) + (n : Int) := by omega
    have i3 : (k1 : Int) + (n : Int) ≤ (c : Int) := by omega
    have i4 : (k1 : Int) ≤ (k1 : Int) + (n : Int) := by omega
    have i5 : (k1 : Int) ≤ (c : Int) := by omega
    have i6 : (0 : Int) ≤ (k1 : Int) + (n : Int) := by omega
    have i7 : ((k1 : Int) + (n : Int)).toNat = k1 + n := by omega
    have Hs := Lib.hid hs
    clear hblk hs ht1 hg1 hgo hq0 hq1 hfin Hgo
    have hcn : ∀ (wx : World) (v : Value), rpByte.SL wx p ((bs.drop k1).take n) v → (convert 32 9 v).run Tryd.prog wx = .ok (.string (strL ((bs.drop k1).take n))) wx := fun wx v h => conv_bytes (P := Tryd.prog) Tryd.underlying32 Tryd.underlying5 Tryd.underlying9 h
    have Hcn := Lib.hid hcn
    clear hcn
    cases A with
    | none =>
      obtain ⟨rfl, rfl, rfl⟩ : bs = [] ∧ n = 0 ∧ k1 = 0 := by
        have hr0 : bs.length = 0 := by
          rcases Nat.eq_zero_or_pos bs.length with h0 | hp
          · exact h0
          · obtain ⟨b, off, _, hA, _⟩ := Hs.out.at_ (List.getElem?_eq_getElem hp)
            cases hA
        exact ⟨List.eq_nil_of_length_eq_zero hr0, by omega, by omega⟩
      have Hcv : Hid (∀ nn mm : Nat, (convert 32 9 (.slice none 0 c)).run Tryd.prog ((w1.drewN mm).drewN nn) = .ok (.string (strL (([] : List UInt8).drop 0 |>.take 0))) ((w1.drewN mm).drewN nn)) := Lib.hid fun nn mm => Hcn.out _ _ ⟨none, c, rfl, Nat.zero_le _, Nat.zero_le _, fun h => absurd h (Nat.lt_irrefl 0)⟩
      go_wp2
      go_quiet (fail)
      go_wp2
      refine wp_region_quiet_lit (by kernel_rfl) (by kernel_rfl) ?_
      iterate 15 go_big_quiet_step (fail)
      go_big_quiet_want
      refine quiet_conv (v := .slice none 0 c) rfl rfl (fun nn => Hcv.out nn _) ?_
      simp only [Act.put, List.setIfInBounds_toArray, List.set_cons_succ, List.set_cons_zero]
      go_big_quiet_on
      repeat (go_big_quiet_step (fail))
      refine wpQuiet_nil ?_
      intro _ hw'
      obtain ⟨nq, hw''⟩ := hw'
      subst hw''
      go_wp2
      exact Hfin.out _
    | some a =>
      have hSL : Hid (∀ (wx : World) (o : Addr), Below w1.heap.size w1 wx → (k1 < k1 + n → o = a.add k1) → rpByte.SL wx p ((bs.drop k1).take n) (.slice (some o) n (c - k1))) := Lib.hid fun wx o hb h' => by
        have h0 := Hs.out.keep (w' := wx) (fun q hq => hb.cell (by omega))
        have h1 := h0.take_ (k := k1 + n) hle
        have h2 := bytes_drop h1 (k := k1) (by rw [List.length_take]; omega) o (by
          intro hx
          apply h'
          rw [List.length_take] at hx
          omega)
        rw [List.drop_take, show k1 + n - k1 = n from by omega] at h2
        exact h2
      by_cases hck : c = k1
      · obtain rfl : n = 0 := by omega
        have Hcv : Hid (∀ nn : Nat, ∀ mm : Nat, (convert 32 9 (.slice (some a) 0 0)).run Tryd.prog ((w1.drewN mm).drewN nn) = .ok (.string (strL ((bs.drop k1).take 0))) ((w1.drewN mm).drewN nn)) := Lib.hid fun nn mm => Hcn.out _ _ (by
          have := hSL.out ((w1.drewN mm).drewN nn) a (below_drewN (below_drewN (Below.refl _ _) mm) nn) (fun h => by omega)
          rwa [hck, Nat.sub_self] at this)
        clear hSL Hcn
        subst hck
        have i8 : ¬ (bs.length : Int) < (c : Int) := by omega
        go_wp2
        go_quiet (fail)
        go_wp2
        refine wp_region_quiet_lit (by kernel_rfl) (by kernel_rfl) ?_
        iterate 15 go_big_quiet_step (fail)
        go_big_quiet_want
        refine quiet_conv (v := .slice (some a) 0 0) rfl rfl (fun nn => Hcv.out nn _) ?_
        simp only [Act.put, List.setIfInBounds_toArray, List.set_cons_succ, List.set_cons_zero]
        go_big_quiet_on
        repeat (go_big_quiet_step (fail))
        refine wpQuiet_nil ?_
        intro _ hw'
        obtain ⟨nq, hw''⟩ := hw'
        subst hw''
        go_wp2
        exact Hfin.out _
      · have Hcv : Hid (∀ nn : Nat, ∀ mm : Nat, (convert 32 9 (.slice (some (a.add k1)) n (c - k1))).run Tryd.prog ((w1.drewN mm).drewN nn) = .ok (.string (strL ((bs.drop k1).take n))) ((w1.drewN mm).drewN nn)) := Lib.hid fun nn mm => Hcn.out _ _ (hSL.out ((w1.drewN mm).drewN nn) _ (below_drewN (below_drewN (Below.refl _ _) mm) nn) (fun _ => rfl))
        clear hSL Hcn
        go_wp2
        go_quiet (fail)
        go_wp2
        refine wp_region_quiet_lit (by kernel_rfl) (by kernel_rfl) ?_
        iterate 15 go_big_quiet_step (fail)
        go_big_quiet_want
        refine quiet_conv (v := .slice (some (a.add k1)) n (c - k1)) rfl rfl (fun nn => Hcv.out nn _) ?_
        simp only [Act.put, List.setIfInBounds_toArray, List.set_cons_succ, List.set_cons_zero]
        go_big_quiet_on
        repeat (go_big_quiet_step (fail))
        refine wpQuiet_nil ?_
        intro _ hw'
        obtain ⟨nq, hw''⟩ := hw'
        subst hw''
        go_wp2
        exact Hfin.out _
  · have hgo := fun nn => HR.out ByteArray.empty k1 true (Nat.zero_le _) (fun h => by cases h) (fun _ => by
      cases q1 with
      | true =>
        rcases hq1 rfl with h | h
        · exact .inl h
        · right
          rw [← textR_eq (by rw [List.length_drop]; omega)]
          unfold textR
          rw [h]
          rfl
      | false =>
        right
        rw [← textR_eq (by rw [List.length_drop]; omega)]
        unfold textR
        rw [(hq0 rfl).2]
        simp only [Option.bind_some]
        rw [if_neg (by omega)]) ((w1.drewN nn).setCell ⟨p, 2, none⟩ (.bool true)) (grown_trans hg1 (grown_trans (grown_of_below (below_drewN (Below.refl w1.heap.size w1) nn) _) (grown_setCell (w1.drewN nn) ⟨p, 2, none⟩ _))) (ht1.other (below_drewN (Below.refl w1.heap.size w1) nn)).fell
    have Hgo := Lib.hid hgo
    have hli : (bs.length : Int) < (k1 : Int) + (n : Int) := by omega
    clear hblk ht1 hg1 hgo hq0 hq1 hs
    go_wp2
    go_quiet (fail)
    go_wp2
    exact Hgo.out _
end Go.Proofs.YtkodcoianakjoaaDoor
