/- The reader of an object: numbers that may be, texts. -/
import Derived.Test.YtfhnmbnniklmiaaDoorBase
import Derived.Test.YtfhnmbnniklmiaaDoorRows
import Derived.IntWalk
import Derived.Outline
import Derived.Test.YtfhnmbnniklmiaaDoorReadB
import Derived.Test.YtfhnmbnniklmiaaDoorLoadP
namespace Go.Proofs.YtfhnmbnniklmiaaDoor
open Go.RowKit
set_option linter.unusedSimpArgs false
set_option linter.unusedVariables false

theorem bytes_drop {w : World} {B : Nat} {xs : List UInt8} {a : Addr} {n c k : Nat} (h : rpByte.SL w B xs (.slice (some a) n c)) (hk : k ≤ xs.length) (o : Addr) (ho : k < xs.length → o = a.add k) : rpByte.SL w B (xs.drop k) (.slice (some o) (n - k) (c - k)) := by
  have hn := h.len
  rcases Nat.lt_or_ge k xs.length with hlt | hge
  · obtain ⟨b, off, _, hA, _⟩ := h.at_ (List.getElem?_eq_getElem hlt)
    injection hA with hA
    subst hA
    have e := ho hlt
    have e2 : o = ⟨b, off + k, none⟩ := by
      rw [e]
      unfold Addr.add
      by_cases h0 : k = 0 <;> simp [h0]
    subst e2
    exact h.drop_ hk (off + k) (fun _ => by simp [rpByte])
  · obtain ⟨A', c', hv, hl, hc, _⟩ := h
    injection hv with _ _ hc'
    subst hc'
    rw [List.drop_of_length_le hge]
    exact ⟨_, c - k, by rw [hn]; congr 1; simp; omega, Nat.zero_le _, Nat.zero_le _, fun h => absurd h (Nat.lt_irrefl 0)⟩

set_option maxRecDepth 100000 in
set_option maxHeartbeats 4000000 in
theorem many_calls (p : Nat) (bs : List UInt8) (bad : Bool) (w : World) (h : Rd w p bs bad) (R : Ending → World → Prop)
    (hgood : ∀ n r, bad = false → manyL bs = some (n, r) → ∀ w', w.grownBy w' (some p) → Rd w' p r false → R (.returned (.int .i64 (n : Nat))) w')
    (hbad : (bad = true ∨ manyL bs = none) → ∀ (w' : World) (n : Nat) r, n ≤ r.length → w.grownBy w' (some p) → Rd w' p r true → R (.returned (.int .i64 (n : Nat))) w') :
    Calls Tryd.prog 141 #[.pointer (some ⟨p, 0, none⟩)] w R := by
  have Hgood := Lib.hid hgood
  have Hbad := Lib.hid hbad
  have Hrd := Lib.hid h
  clear hgood hbad h
  go_enter Tryd.func141, Tryd.ntmps141
  go_wp2_with fail
  refine Number_calls p bs bad _ Hrd.out _ (fun n r hn hb hnum w1 hg1 hr1 => ?_) (fun hbn w1 n r hn hg1 hr1 => ?_)
  · have hlt := hr1.lt
    obtain ⟨v, T, hblk, hs⟩ := id hr1
    obtain ⟨c0, c1, z0, z1⟩ := cells_of_block hblk
    obtain ⟨A, c, rfl, hm, hcap, hs⟩ := hs.cases_
    have i0 : (0 : Int) ≤ (n : Int) := by omega
    have i1 : (n : Int) ≤ 18446744073709551615 := by omega
    have i2 : (r.length : Int) ≤ 9223372036854775807 := by omega
    by_cases hle : n ≤ r.length
    · have hgo := Hgood.out n r hb (manyL_some.2 ⟨hnum, hle⟩) w1 hg1 hr1
      have Hgo := Lib.hid hgo
      have hli : ¬ (r.length : Int) < (n : Int) := by omega
      have i3 : (n : Int) ≤ 9223372036854775807 := by omega
      clear hblk hs hr1 hg1 hnum hgo hb
      go_wp2
      exact Hgo.out
    · have hno : manyL bs = none := by
        cases hmm : manyL bs with
        | none => rfl
        | some x =>
          obtain ⟨h1, h2⟩ := manyL_some.1 (show manyL bs = some (x.1, x.2) from hmm)
          rw [hnum] at h1
          obtain ⟨rfl, rfl⟩ := Prod.mk.inj (Option.some.inj h1)
          exact absurd h2 hle
      have hgo := Hbad.out (.inr hno) (w1.setCell ⟨p, 1, none⟩ (.bool true)) 0 r (Nat.zero_le _) (grown_trans hg1 (grown_setCell w1 ⟨p, 1, none⟩ _)) ⟨_, T, blk_set1 hblk _, SL_grown hs (grown_setCell w1 ⟨p, 1, none⟩ _) (by omega)⟩
      have Hgo := Lib.hid hgo
      have hli : (r.length : Int) < (n : Int) := by omega
      clear hblk hs hr1 hg1 hnum hgo hb hno
      go_wp2
      exact Hgo.out
  · have hlt := hr1.lt
    obtain ⟨v, T, hblk, hs⟩ := id hr1
    obtain ⟨c0, c1, z0, z1⟩ := cells_of_block hblk
    obtain ⟨A, c, rfl, hm, hcap, hs⟩ := hs.cases_
    have i0 : (0 : Int) ≤ (n : Int) := by omega
    have i1 : (n : Int) ≤ 18446744073709551615 := by omega
    have i2 : (r.length : Int) ≤ 9223372036854775807 := by omega
    have hbn2 : bad = true ∨ manyL bs = none := by
      rcases hbn with h | h
      · exact .inl h
      · right
        unfold manyL
        rw [h]
        rfl
    by_cases hle : n ≤ r.length
    · have Hgo := Lib.hid (Hbad.out hbn2 w1 n r hle hg1 hr1)
      have hli : ¬ (r.length : Int) < (n : Int) := by omega
      have i3 : (n : Int) ≤ 9223372036854775807 := by omega
      clear hblk hs hr1 hg1 hbn hbn2
      go_wp2
      exact Hgo.out
    · have hgo := Hbad.out hbn2 (w1.setCell ⟨p, 1, none⟩ (.bool true)) 0 r (Nat.zero_le _) (grown_trans hg1 (grown_setCell w1 ⟨p, 1, none⟩ _)) ⟨_, T, blk_set1 hblk _, SL_grown hs (grown_setCell w1 ⟨p, 1, none⟩ _) (by omega)⟩
      have Hgo := Lib.hid hgo
      have hli : (r.length : Int) < (n : Int) := by omega
      clear hblk hs hr1 hg1 hgo hbn hbn2
      go_wp2
      exact Hgo.out

set_option maxRecDepth 100000 in
set_option maxHeartbeats 4000000 in
theorem small_calls (p : Nat) (bs : List UInt8) (bad : Bool) (w : World) (h : Rd w p bs bad) (R : Ending → World → Prop)
    (hgood : ∀ n r, bad = false → smallL bs = some (n, r) → ∀ w', w.grownBy w' (some p) → Rd w' p r false → R (.returned (.int .i64 (n : Nat))) w')
    (hbad : (bad = true ∨ smallL bs = none) → ∀ (w' : World) (n : Int) r, w.grownBy w' (some p) → Rd w' p r true → R (.returned (.int .i64 n)) w') :
    Calls Tryd.prog 143 #[.pointer (some ⟨p, 0, none⟩)] w R := by
  have Hgood := Lib.hid hgood
  have Hbad := Lib.hid hbad
  have Hrd := Lib.hid h
  clear hgood hbad h
  go_enter Tryd.func143, Tryd.ntmps143
  go_wp2_with fail
  refine Number_calls p bs bad _ Hrd.out _ (fun n r hn hb hnum w1 hg1 hr1 => ?_) (fun hbn w1 n r hn hg1 hr1 => ?_)
  · have hlt := hr1.lt
    obtain ⟨v, T, hblk, hs⟩ := id hr1
    obtain ⟨c0, c1, z0, z1⟩ := cells_of_block hblk
    have i0 : (0 : Int) ≤ (n : Int) := by omega
    have i1 : (n : Int) ≤ 18446744073709551615 := by omega
    by_cases hle : n ≤ 90000
    · have hgo := Hgood.out n r hb (smallL_some.2 ⟨hnum, hle⟩) w1 hg1 hr1
      have Hgo := Lib.hid hgo
      have hli : ¬ (90000 : Int) < (n : Int) := by omega
      clear hblk hs hr1 hg1 hnum hgo hb
      go_wp2
      exact Hgo.out
    · have hno : smallL bs = none := by
        cases hmm : smallL bs with
        | none => rfl
        | some x =>
          obtain ⟨h1, h2⟩ := smallL_some.1 (show smallL bs = some (x.1, x.2) from hmm)
          rw [hnum] at h1
          obtain ⟨rfl, rfl⟩ := Prod.mk.inj (Option.some.inj h1)
          exact absurd h2 hle
      have hgo := fun m => Hbad.out (.inr hno) (w1.setCell ⟨p, 1, none⟩ (.bool true)) m r (grown_trans hg1 (grown_setCell w1 ⟨p, 1, none⟩ _)) ⟨_, T, blk_set1 hblk _, SL_grown hs (grown_setCell w1 ⟨p, 1, none⟩ _) (by omega)⟩
      have Hgo := Lib.hid hgo
      have hli : (90000 : Int) < (n : Int) := by omega
      clear hblk hs hr1 hg1 hnum hgo hb hno
      go_wp2
      exact Hgo.out _
  · have hlt := hr1.lt
    obtain ⟨v, T, hblk, hs⟩ := id hr1
    obtain ⟨c0, c1, z0, z1⟩ := cells_of_block hblk
    have i0 : (0 : Int) ≤ (n : Int) := by omega
    have i1 : (n : Int) ≤ 18446744073709551615 := by omega
    have hbn2 : bad = true ∨ smallL bs = none := by
      rcases hbn with h | h
      · exact .inl h
      · right
        unfold smallL
        rw [h]
        rfl
    by_cases hle : n ≤ 90000
    · have Hgo := Lib.hid (fun m => Hbad.out hbn2 w1 m r hg1 hr1)
      have hli : ¬ (90000 : Int) < (n : Int) := by omega
      clear hblk hs hr1 hg1 hbn hbn2
      go_wp2
      exact Hgo.out _
    · have hgo := fun m => Hbad.out hbn2 (w1.setCell ⟨p, 1, none⟩ (.bool true)) m r (grown_trans hg1 (grown_setCell w1 ⟨p, 1, none⟩ _)) ⟨_, T, blk_set1 hblk _, SL_grown hs (grown_setCell w1 ⟨p, 1, none⟩ _) (by omega)⟩
      have Hgo := Lib.hid hgo
      have hli : (90000 : Int) < (n : Int) := by omega
      clear hblk hs hr1 hg1 hgo hbn hbn2
      go_wp2
      exact Hgo.out _

set_option maxRecDepth 100000 in
set_option maxHeartbeats 4000000 in
theorem text_calls (p : Nat) (bs : List UInt8) (bad : Bool) (w : World) (h : Rd w p bs bad) (R : Ending → World → Prop)
    (hgood : ∀ s r, bad = false → textL bs = some (s, r) → ∀ w', w.grownBy w' (some p) → Rd w' p r false → R (.returned (.string s)) w')
    (hbad : (bad = true ∨ textL bs = none) → ∀ (w' : World) (s : ByteArray) r, s.size ≤ maxLen → w.grownBy w' (some p) → Rd w' p r true → R (.returned (.string s)) w') :
    Calls Tryd.prog 142 #[.pointer (some ⟨p, 0, none⟩)] w R := by
  have Hgood := Lib.hid hgood
  have Hbad := Lib.hid hbad
  have Hrd := Lib.hid h
  clear hgood hbad h
  go_enter Tryd.func142, Tryd.ntmps142
  go_wp2_with fail
  refine many_calls p bs bad _ Hrd.out _ (fun n r hb hmany w1 hg1 hr1 => ?_) (fun hbn w1 n r hle hg1 hr1 => ?_)
  · have hle := (manyL_some.1 hmany).2
    have Hgo := Lib.hid (fun w' => Hgood.out (strL (r.take n)) (r.drop n) hb (textL_some.2 ⟨n, r, hmany, rfl, rfl⟩) w')
    have hlt := hr1.lt
    obtain ⟨v, T, hblk, hs⟩ := id hr1
    obtain ⟨c0, c1, z0, z1⟩ := cells_of_block hblk
    obtain ⟨A, c, rfl, hm, hcap, hs⟩ := hs.cases_
    have i0 : (0 : Int) ≤ (n : Int) := by omega
    have i1 : (n : Int) ≤ (r.length : Int) := by omega
    have i2 : (n : Int) ≤ (c : Int) := by omega
    have hk := Lib.hid (hs.take_ hle)
    have hcv := conv_bytes (P := Tryd.prog) Tryd.underlying39 Tryd.underlying5 Tryd.underlying9 hk.out
    have Hblk := Lib.hid hblk
    have Hs := Lib.hid hs
    have Hg1 := Lib.hid hg1
    clear hblk hs hr1 hg1
    cases A with
    | none =>
      obtain ⟨rfl, rfl⟩ : r = [] ∧ n = 0 := by
        have hr0 : r.length = 0 := by
          rcases Nat.eq_zero_or_pos r.length with h0 | hp
          · exact h0
          · obtain ⟨b, off, _, hA, _⟩ := Hs.out.at_ (List.getElem?_eq_getElem hp)
            cases hA
        exact ⟨List.eq_nil_of_length_eq_zero hr0, by omega⟩
      have hfin := fun v hv => Hgo.out (w1.setCell ⟨p, 0, none⟩ v) (grown_trans Hg1.out (grown_setCell w1 ⟨p, 0, none⟩ _)) ⟨v, T, blk_set0 Hblk.out _, SL_grown hv (grown_setCell w1 ⟨p, 0, none⟩ _) (by omega)⟩
      have Hfin := Lib.hid (hfin (.slice none 0 c) ⟨none, c, rfl, Nat.zero_le _, Nat.zero_le _, fun h => absurd h (Nat.lt_irrefl 0)⟩)
      clear hfin
      go_wp2
      simpa using Hfin.out
    | some a =>
      have hfin := fun o ho => Hgo.out (w1.setCell ⟨p, 0, none⟩ (.slice (some o) (r.length - n) (c - n))) (grown_trans Hg1.out (grown_setCell w1 ⟨p, 0, none⟩ _)) ⟨_, T, blk_set0 Hblk.out _, SL_grown (bytes_drop Hs.out hle o ho) (grown_setCell w1 ⟨p, 0, none⟩ _) (by omega)⟩
      have Hfin := Lib.hid hfin
      clear hfin
      by_cases hcn : c = n
      · have Hf := Lib.hid (Hfin.out a (fun h => by omega))
        clear Hfin
        subst hcn
        go_wp2
        have h := Hf.out
        rw [show r.length - c = 0 from by omega, Nat.sub_self] at h
        exact h
      · have Hf := Lib.hid (Hfin.out (a.add n) (fun _ => rfl))
        clear Hfin
        go_wp2
        exact Hf.out
  · have hbn2 : bad = true ∨ textL bs = none := by
      rcases hbn with h | h
      · exact .inl h
      · right
        unfold textL
        rw [h]
        rfl
    have hsz : (strL (r.take n)).size ≤ maxLen := by
      obtain ⟨v, T, hblk, hs⟩ := id hr1
      have := hs.max
      rw [strL_size, List.length_take]
      omega
    have Hgo := Lib.hid (fun w' => Hbad.out hbn2 w' (strL (r.take n)) (r.drop n) hsz)
    have hlt := hr1.lt
    obtain ⟨v, T, hblk, hs⟩ := id hr1
    obtain ⟨c0, c1, z0, z1⟩ := cells_of_block hblk
    obtain ⟨A, c, rfl, hm, hcap, hs⟩ := hs.cases_
    have i0 : (0 : Int) ≤ (n : Int) := by omega
    have i1 : (n : Int) ≤ (r.length : Int) := by omega
    have i2 : (n : Int) ≤ (c : Int) := by omega
    have hk := Lib.hid (hs.take_ hle)
    have hcv := conv_bytes (P := Tryd.prog) Tryd.underlying39 Tryd.underlying5 Tryd.underlying9 hk.out
    have Hblk := Lib.hid hblk
    have Hs := Lib.hid hs
    have Hg1 := Lib.hid hg1
    clear hblk hs hr1 hg1
    cases A with
    | none =>
      obtain ⟨rfl, rfl⟩ : r = [] ∧ n = 0 := by
        have hr0 : r.length = 0 := by
          rcases Nat.eq_zero_or_pos r.length with h0 | hp
          · exact h0
          · obtain ⟨b, off, _, hA, _⟩ := Hs.out.at_ (List.getElem?_eq_getElem hp)
            cases hA
        exact ⟨List.eq_nil_of_length_eq_zero hr0, by omega⟩
      have hfin := fun v hv => Hgo.out (w1.setCell ⟨p, 0, none⟩ v) (grown_trans Hg1.out (grown_setCell w1 ⟨p, 0, none⟩ _)) ⟨v, T, blk_set0 Hblk.out _, SL_grown hv (grown_setCell w1 ⟨p, 0, none⟩ _) (by omega)⟩
      have Hfin := Lib.hid (hfin (.slice none 0 c) ⟨none, c, rfl, Nat.zero_le _, Nat.zero_le _, fun h => absurd h (Nat.lt_irrefl 0)⟩)
      clear hfin
      go_wp2
      simpa using Hfin.out
    | some a =>
      have hfin := fun o ho => Hgo.out (w1.setCell ⟨p, 0, none⟩ (.slice (some o) (r.length - n) (c - n))) (grown_trans Hg1.out (grown_setCell w1 ⟨p, 0, none⟩ _)) ⟨_, T, blk_set0 Hblk.out _, SL_grown (bytes_drop Hs.out hle o ho) (grown_setCell w1 ⟨p, 0, none⟩ _) (by omega)⟩
      have Hfin := Lib.hid hfin
      clear hfin
      by_cases hcn : c = n
      · have Hf := Lib.hid (Hfin.out a (fun h => by omega))
        clear Hfin
        subst hcn
        go_wp2
        have h := Hf.out
        rw [show r.length - c = 0 from by omega, Nat.sub_self] at h
        exact h
      · have Hf := Lib.hid (Hfin.out (a.add n) (fun _ => rfl))
        clear Hfin
        go_wp2
        exact Hf.out

theorem many_any (p : Nat) (bs : List UInt8) (bad : Bool) (w : World) (h : Rd w p bs bad) (R : Ending → World → Prop)
    (hR : ∀ (n : Nat) r (q : Bool), n ≤ r.length → (q = false → bad = false ∧ manyL bs = some (n, r)) → (q = true → bad = true ∨ manyL bs = none) → ∀ w', w.grownBy w' (some p) → Rd w' p r q → R (.returned (.int .i64 (n : Nat))) w') :
    Calls Tryd.prog 141 #[.pointer (some ⟨p, 0, none⟩)] w R :=
  many_calls p bs bad w h R (fun n r hb hm w' hg hr => hR n r false (manyL_some.1 hm).2 (fun _ => ⟨hb, hm⟩) (fun h => by cases h) w' hg hr) (fun hb w' n r hn hg hr => hR n r true hn (fun h => by cases h) (fun _ => hb) w' hg hr)
theorem small_any (p : Nat) (bs : List UInt8) (bad : Bool) (w : World) (h : Rd w p bs bad) (R : Ending → World → Prop)
    (hR : ∀ (n : Int) r (q : Bool), (q = false → bad = false ∧ ∃ m : Nat, n = (m : Int) ∧ smallL bs = some (m, r)) → (q = true → bad = true ∨ smallL bs = none) → ∀ w', w.grownBy w' (some p) → Rd w' p r q → R (.returned (.int .i64 n)) w') :
    Calls Tryd.prog 143 #[.pointer (some ⟨p, 0, none⟩)] w R :=
  small_calls p bs bad w h R (fun n r hb hm w' hg hr => hR n r false (fun _ => ⟨hb, n, rfl, hm⟩) (fun h => by cases h) w' hg hr) (fun hb w' n r hg hr => hR n r true (fun h => by cases h) (fun _ => hb) w' hg hr)
theorem text_any (p : Nat) (bs : List UInt8) (bad : Bool) (w : World) (h : Rd w p bs bad) (R : Ending → World → Prop)
    (hR : ∀ s r (q : Bool), s.size ≤ maxLen → (q = false → bad = false ∧ textL bs = some (s, r)) → (q = true → bad = true ∨ textL bs = none) → ∀ w', w.grownBy w' (some p) → Rd w' p r q → R (.returned (.string s)) w') :
    Calls Tryd.prog 142 #[.pointer (some ⟨p, 0, none⟩)] w R :=
  text_calls p bs bad w h R (fun s r hb hm w' hg hr => hR s r false (by
    obtain ⟨n, r', h1, rfl, _⟩ := textL_some.1 hm
    have h2 := manyL_short _ _ _ h1
    obtain ⟨v, T, _, hs⟩ := id h
    have := hs.max
    rw [strL_size, List.length_take]
    omega) (fun _ => ⟨hb, hm⟩) (fun h => by cases h) w' hg hr) (fun hb w' s r hsz hg hr => hR s r true hsz (fun h => by cases h) (fun _ => hb) w' hg hr)
end Go.Proofs.YtfhnmbnniklmiaaDoor
