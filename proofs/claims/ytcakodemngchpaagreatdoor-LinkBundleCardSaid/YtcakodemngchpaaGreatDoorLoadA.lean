/- The reader of an object: numbers that may be, texts. object.list at int and at api.Mend, with their closures. The reader's global and section; object.list of them. object.Loaded: an object out of its bytes. -/
import Derived.Test.YtcakodemngchpaaGreatDoorBase
import Derived.Test.YtcakodemngchpaaGreatDoorRows
import Derived.IntWalk
import Derived.Outline
import Derived.Test.YtcakodemngchpaaGreatDoorReadB
import Derived.Test.YtcakodemngchpaaGreatDoorLoadP
import Derived.Deep.LoopGhost
import Derived.Lib.ConvBytes
/- The reader of an object: numbers that may be, texts. -/
namespace Go.Proofs.YtcakodemngchpaaGreatDoor
open Go.RowKit
set_option linter.unusedSimpArgs false
set_option linter.unusedVariables false

theorem bytes_drop {w : World} {B : Nat} {xs : List UInt8} {a : Addr} {n c k : Nat} (h : rpByte.SL w B xs (.slice (some a) n c)) (hk : k ≤ xs.length) (o : Addr) (ho : k < xs.length → o = a.add k) : rpByte.SL w B (xs.drop k) (.slice (some o) (n - k) (c - k)) := by
  have hn := h.len
  rcases Nat.lt_or_ge k xs.length with hlt | hge
  · obtain ⟨b, off, _, hA, _⟩ := h.at_ (List.getElem?_eq_getElem hlt)
    injection hA with hA
    subst hA
    have e := ho hlt
    have e2 : o = ⟨b, off + k, none⟩ := by
      rw [e]
      unfold Addr.add
      by_cases h0 : k = 0 <;> simp [h0]
    subst e2
    exact h.drop_ hk (off + k) (fun _ => by simp [rpByte])
  · obtain ⟨A', c', hv, hl, hc, _⟩ := h
    injection hv with _ _ hc'
    subst hc'
    rw [List.drop_of_length_le hge]
    exact ⟨_, c - k, by rw [hn]; congr 1; simp; omega, Nat.zero_le _, Nat.zero_le _, fun h => absurd h (Nat.lt_irrefl 0)⟩

set_option maxRecDepth 100000 in
set_option maxHeartbeats 4000000 in
theorem many_calls (p : Nat) (bs : List UInt8) (bad : Bool) (w : World) (h : Rd w p bs bad) (R : Ending → World → Prop)
    (hgood : ∀ n r, bad = false → manyL bs = some (n, r) → ∀ w', w.grownBy w' (some p) → Rd w' p r false → R (.returned (.int .i64 (n : Nat))) w')
    (hbad : (bad = true ∨ manyL bs = none) → ∀ (w' : World) (n : Nat) r, n ≤ r.length → w.grownBy w' (some p) → Rd w' p r true → R (.returned (.int .i64 (n : Nat))) w') :
    Calls Tryz.prog 102 #[.pointer (some ⟨p, 0, none⟩)] w R := by
  have Hgood := Lib.hid hgood
  have Hbad := Lib.hid hbad
  have Hrd := Lib.hid h
  clear hgood hbad h
  go_enter Tryz.func102, Tryz.ntmps102
  go_wp2_with fail
  refine Number_calls p bs bad _ Hrd.out _ (fun n r hn hb hnum w1 hg1 hr1 => ?_) (fun hbn w1 n r hn hg1 hr1 => ?_)
  · have hlt := hr1.lt
    obtain ⟨v, T, hblk, hs⟩ := id hr1
    obtain ⟨c0, c1, z0, z1⟩ := cells_of_block hblk
    obtain ⟨A, c, rfl, hm, hcap, hs⟩ := hs.cases_
    have i0 : (0 : Int) ≤ (n : Int) := by omega
    have i1 : (n : Int) ≤ 18446744073709551615 := by omega
    have i2 : (r.length : Int) ≤ 9223372036854775807 := by omega
    by_cases hle : n ≤ r.length
    · have hgo := Hgood.out n r hb (manyL_some.2 ⟨hnum, hle⟩) w1 hg1 hr1
      have Hgo := Lib.hid hgo
      have hli : ¬ (r.length : Int) < (n : Int) := by omega
      have i3 : (n : Int) ≤ 9223372036854775807 := by omega
      clear hblk hs hr1 hg1 hnum hgo hb
      go_wp2
      exact Hgo.out
    · have hno : manyL bs = none := by
        cases hmm : manyL bs with
        | none => rfl
        | some x =>
          obtain ⟨h1, h2⟩ := manyL_some.1 (show manyL bs = some (x.1, x.2) from hmm)
          rw [hnum] at h1
          obtain ⟨rfl, rfl⟩ := Prod.mk.inj (Option.some.inj h1)
          exact absurd h2 hle
      have hgo := Hbad.out (.inr hno) (w1.setCell ⟨p, 1, none⟩ (.bool true)) 0 r (Nat.zero_le _) (grown_trans hg1 (grown_setCell w1 ⟨p, 1, none⟩ _)) ⟨_, T, blk_set1 hblk _, SL_grown hs (grown_setCell w1 ⟨p, 1, none⟩ _) (by omega)⟩
      have Hgo := Lib.hid hgo
      have hli : (r.length : Int) < (n : Int) := by omega
      clear hblk hs hr1 hg1 hnum hgo hb hno
      go_wp2
      exact Hgo.out
  · have hlt := hr1.lt
    obtain ⟨v, T, hblk, hs⟩ := id hr1
    obtain ⟨c0, c1, z0, z1⟩ := cells_of_block hblk
    obtain ⟨A, c, rfl, hm, hcap, hs⟩ := hs.cases_
    have i0 : (0 : Int) ≤ (n : Int) := by omega
    have i1 : (n : Int) ≤ 18446744073709551615 := by omega
    have i2 : (r.length : Int) ≤ 9223372036854775807 := by omega
    have hbn2 : bad = true ∨ manyL bs = none := by
      rcases hbn with h | h
      · exact .inl h
      · right
        unfold manyL
        rw [h]
        rfl
    by_cases hle : n ≤ r.length
    · have Hgo := Lib.hid (Hbad.out hbn2 w1 n r hle hg1 hr1)
      have hli : ¬ (r.length : Int) < (n : Int) := by omega
      have i3 : (n : Int) ≤ 9223372036854775807 := by omega
      clear hblk hs hr1 hg1 hbn hbn2
      go_wp2
      exact Hgo.out
    · have hgo := Hbad.out hbn2 (w1.setCell ⟨p, 1, none⟩ (.bool true)) 0 r (Nat.zero_le _) (grown_trans hg1 (grown_setCell w1 ⟨p, 1, none⟩ _)) ⟨_, T, blk_set1 hblk _, SL_grown hs (grown_setCell w1 ⟨p, 1, none⟩ _) (by omega)⟩
      have Hgo := Lib.hid hgo
      have hli : (r.length : Int) < (n : Int) := by omega
      clear hblk hs hr1 hg1 hgo hbn hbn2
      go_wp2
      exact Hgo.out

set_option maxRecDepth 100000 in
set_option maxHeartbeats 4000000 in
theorem small_calls (p : Nat) (bs : List UInt8) (bad : Bool) (w : World) (h : Rd w p bs bad) (R : Ending → World → Prop)
    (hgood : ∀ n r, bad = false → smallL bs = some (n, r) → ∀ w', w.grownBy w' (some p) → Rd w' p r false → R (.returned (.int .i64 (n : Nat))) w')
    (hbad : (bad = true ∨ smallL bs = none) → ∀ (w' : World) (n : Int) r, w.grownBy w' (some p) → Rd w' p r true → R (.returned (.int .i64 n)) w') :
    Calls Tryz.prog 104 #[.pointer (some ⟨p, 0, none⟩)] w R := by
  have Hgood := Lib.hid hgood
  have Hbad := Lib.hid hbad
  have Hrd := Lib.hid h
  clear hgood hbad h
  go_enter Tryz.func104, Tryz.ntmps104
  go_wp2_with fail
  refine Number_calls p bs bad _ Hrd.out _ (fun n r hn hb hnum w1 hg1 hr1 => ?_) (fun hbn w1 n r hn hg1 hr1 => ?_)
  · have hlt := hr1.lt
    obtain ⟨v, T, hblk, hs⟩ := id hr1
    obtain ⟨c0, c1, z0, z1⟩ := cells_of_block hblk
    have i0 : (0 : Int) ≤ (n : Int) := by omega
    have i1 : (n : Int) ≤ 18446744073709551615 := by omega
    by_cases hle : n ≤ 90000
    · have hgo := Hgood.out n r hb (smallL_some.2 ⟨hnum, hle⟩) w1 hg1 hr1
      have Hgo := Lib.hid hgo
      have hli : ¬ (90000 : Int) < (n : Int) := by omega
      clear hblk hs hr1 hg1 hnum hgo hb
      go_wp2
      exact Hgo.out
    · have hno : smallL bs = none := by
        cases hmm : smallL bs with
        | none => rfl
        | some x =>
          obtain ⟨h1, h2⟩ := smallL_some.1 (show smallL bs = some (x.1, x.2) from hmm)
          rw [hnum] at h1
          obtain ⟨rfl, rfl⟩ := Prod.mk.inj (Option.some.inj h1)
          exact absurd h2 hle
      have hgo := fun m => Hbad.out (.inr hno) (w1.setCell ⟨p, 1, none⟩ (.bool true)) m r (grown_trans hg1 (grown_setCell w1 ⟨p, 1, none⟩ _)) ⟨_, T, blk_set1 hblk _, SL_grown hs (grown_setCell w1 ⟨p, 1, none⟩ _) (by omega)⟩
      have Hgo := Lib.hid hgo
      have hli : (90000 : Int) < (n : Int) := by omega
      clear hblk hs hr1 hg1 hnum hgo hb hno
      go_wp2
      exact Hgo.out _
  · have hlt := hr1.lt
    obtain ⟨v, T, hblk, hs⟩ := id hr1
    obtain ⟨c0, c1, z0, z1⟩ := cells_of_block hblk
    have i0 : (0 : Int) ≤ (n : Int) := by omega
    have i1 : (n : Int) ≤ 18446744073709551615 := by omega
    have hbn2 : bad = true ∨ smallL bs = none := by
      rcases hbn with h | h
      · exact .inl h
      · right
        unfold smallL
        rw [h]
        rfl
    by_cases hle : n ≤ 90000
    · have Hgo := Lib.hid (fun m => Hbad.out hbn2 w1 m r hg1 hr1)
      have hli : ¬ (90000 : Int) < (n : Int) := by omega
      clear hblk hs hr1 hg1 hbn hbn2
      go_wp2
      exact Hgo.out _
    · have hgo := fun m => Hbad.out hbn2 (w1.setCell ⟨p, 1, none⟩ (.bool true)) m r (grown_trans hg1 (grown_setCell w1 ⟨p, 1, none⟩ _)) ⟨_, T, blk_set1 hblk _, SL_grown hs (grown_setCell w1 ⟨p, 1, none⟩ _) (by omega)⟩
      have Hgo := Lib.hid hgo
      have hli : (90000 : Int) < (n : Int) := by omega
      clear hblk hs hr1 hg1 hgo hbn hbn2
      go_wp2
      exact Hgo.out _

set_option maxRecDepth 100000 in
set_option maxHeartbeats 4000000 in
theorem text_calls (p : Nat) (bs : List UInt8) (bad : Bool) (w : World) (h : Rd w p bs bad) (R : Ending → World → Prop)
    (hgood : ∀ s r, bad = false → textL bs = some (s, r) → ∀ w', w.grownBy w' (some p) → Rd w' p r false → R (.returned (.string s)) w')
    (hbad : (bad = true ∨ textL bs = none) → ∀ (w' : World) (s : ByteArray) r, s.size ≤ maxLen → w.grownBy w' (some p) → Rd w' p r true → R (.returned (.string s)) w') :
    Calls Tryz.prog 103 #[.pointer (some ⟨p, 0, none⟩)] w R := by
  have Hgood := Lib.hid hgood
  have Hbad := Lib.hid hbad
  have Hrd := Lib.hid h
  clear hgood hbad h
  go_enter Tryz.func103, Tryz.ntmps103
  go_wp2_with fail
  refine many_calls p bs bad _ Hrd.out _ (fun n r hb hmany w1 hg1 hr1 => ?_) (fun hbn w1 n r hle hg1 hr1 => ?_)
  · have hle := (manyL_some.1 hmany).2
    have Hgo := Lib.hid (fun w' => Hgood.out (strL (r.take n)) (r.drop n) hb (textL_some.2 ⟨n, r, hmany, rfl, rfl⟩) w')
    have hlt := hr1.lt
    obtain ⟨v, T, hblk, hs⟩ := id hr1
    obtain ⟨c0, c1, z0, z1⟩ := cells_of_block hblk
    obtain ⟨A, c, rfl, hm, hcap, hs⟩ := hs.cases_
    have i0 : (0 : Int) ≤ (n : Int) := by omega
    have i1 : (n : Int) ≤ (r.length : Int) := by omega
    have i2 : (n : Int) ≤ (c : Int) := by omega
    have hk := Lib.hid (hs.take_ hle)
    have hcv := conv_bytes (P := Tryz.prog) Tryz.underlying25 Tryz.underlying5 Tryz.underlying9 hk.out
    have Hblk := Lib.hid hblk
    have Hs := Lib.hid hs
    have Hg1 := Lib.hid hg1
    clear hblk hs hr1 hg1
    cases A with
    | none =>
      obtain ⟨rfl, rfl⟩ : r = [] ∧ n = 0 := by
        have hr0 : r.length = 0 := by
          rcases Nat.eq_zero_or_pos r.length with h0 | hp
          · exact h0
          · obtain ⟨b, off, _, hA, _⟩ := Hs.out.at_ (List.getElem?_eq_getElem hp)
            cases hA
        exact ⟨List.eq_nil_of_length_eq_zero hr0, by omega⟩
      have hfin := fun v hv => Hgo.out (w1.setCell ⟨p, 0, none⟩ v) (grown_trans Hg1.out (grown_setCell w1 ⟨p, 0, none⟩ _)) ⟨v, T, blk_set0 Hblk.out _, SL_grown hv (grown_setCell w1 ⟨p, 0, none⟩ _) (by omega)⟩
      have Hfin := Lib.hid (hfin (.slice none 0 c) ⟨none, c, rfl, Nat.zero_le _, Nat.zero_le _, fun h => absurd h (Nat.lt_irrefl 0)⟩)
      clear hfin
      go_wp2
      simpa using Hfin.out
    | some a =>
      have hfin := fun o ho => Hgo.out (w1.setCell ⟨p, 0, none⟩ (.slice (some o) (r.length - n) (c - n))) (grown_trans Hg1.out (grown_setCell w1 ⟨p, 0, none⟩ _)) ⟨_, T, blk_set0 Hblk.out _, SL_grown (bytes_drop Hs.out hle o ho) (grown_setCell w1 ⟨p, 0, none⟩ _) (by omega)⟩
      have Hfin := Lib.hid hfin
      clear hfin
      by_cases hcn : c = n
      · have Hf := Lib.hid (Hfin.out a (fun h => by omega))
        clear Hfin
        subst hcn
        go_wp2
        have h := Hf.out
        rw [show r.length - c = 0 from by omega, Nat.sub_self] at h
        exact h
      · have Hf := Lib.hid (Hfin.out (a.add n) (fun _ => rfl))
        clear Hfin
        go_wp2
        exact Hf.out
  · have hbn2 : bad = true ∨ textL bs = none := by
      rcases hbn with h | h
      · exact .inl h
      · right
        unfold textL
        rw [h]
        rfl
    have hsz : (strL (r.take n)).size ≤ maxLen := by
      obtain ⟨v, T, hblk, hs⟩ := id hr1
      have := hs.max
      rw [strL_size, List.length_take]
      omega
    have Hgo := Lib.hid (fun w' => Hbad.out hbn2 w' (strL (r.take n)) (r.drop n) hsz)
    have hlt := hr1.lt
    obtain ⟨v, T, hblk, hs⟩ := id hr1
    obtain ⟨c0, c1, z0, z1⟩ := cells_of_block hblk
    obtain ⟨A, c, rfl, hm, hcap, hs⟩ := hs.cases_
    have i0 : (0 : Int) ≤ (n : Int) := by omega
    have i1 : (n : Int) ≤ (r.length : Int) := by omega
    have i2 : (n : Int) ≤ (c : Int) := by omega
    have hk := Lib.hid (hs.take_ hle)
    have hcv := conv_bytes (P := Tryz.prog) Tryz.underlying25 Tryz.underlying5 Tryz.underlying9 hk.out
    have Hblk := Lib.hid hblk
    have Hs := Lib.hid hs
    have Hg1 := Lib.hid hg1
    clear hblk hs hr1 hg1
    cases A with
    | none =>
      obtain ⟨rfl, rfl⟩ : r = [] ∧ n = 0 := by
        have hr0 : r.length = 0 := by
          rcases Nat.eq_zero_or_pos r.length with h0 | hp
          · exact h0
          · obtain ⟨b, off, _, hA, _⟩ := Hs.out.at_ (List.getElem?_eq_getElem hp)
            cases hA
        exact ⟨List.eq_nil_of_length_eq_zero hr0, by omega⟩
      have hfin := fun v hv => Hgo.out (w1.setCell ⟨p, 0, none⟩ v) (grown_trans Hg1.out (grown_setCell w1 ⟨p, 0, none⟩ _)) ⟨v, T, blk_set0 Hblk.out _, SL_grown hv (grown_setCell w1 ⟨p, 0, none⟩ _) (by omega)⟩
      have Hfin := Lib.hid (hfin (.slice none 0 c) ⟨none, c, rfl, Nat.zero_le _, Nat.zero_le _, fun h => absurd h (Nat.lt_irrefl 0)⟩)
      clear hfin
      go_wp2
      simpa using Hfin.out
    | some a =>
      have hfin := fun o ho => Hgo.out (w1.setCell ⟨p, 0, none⟩ (.slice (some o) (r.length - n) (c - n))) (grown_trans Hg1.out (grown_setCell w1 ⟨p, 0, none⟩ _)) ⟨_, T, blk_set0 Hblk.out _, SL_grown (bytes_drop Hs.out hle o ho) (grown_setCell w1 ⟨p, 0, none⟩ _) (by omega)⟩
      have Hfin := Lib.hid hfin
      clear hfin
      by_cases hcn : c = n
      · have Hf := Lib.hid (Hfin.out a (fun h => by omega))
        clear Hfin
        subst hcn
        go_wp2
        have h := Hf.out
        rw [show r.length - c = 0 from by omega, Nat.sub_self] at h
        exact h
      · have Hf := Lib.hid (Hfin.out (a.add n) (fun _ => rfl))
        clear Hfin
        go_wp2
        exact Hf.out

theorem many_any (p : Nat) (bs : List UInt8) (bad : Bool) (w : World) (h : Rd w p bs bad) (R : Ending → World → Prop)
    (hR : ∀ (n : Nat) r (q : Bool), n ≤ r.length → (q = false → bad = false ∧ manyL bs = some (n, r)) → (q = true → bad = true ∨ manyL bs = none) → ∀ w', w.grownBy w' (some p) → Rd w' p r q → R (.returned (.int .i64 (n : Nat))) w') :
    Calls Tryz.prog 102 #[.pointer (some ⟨p, 0, none⟩)] w R :=
  many_calls p bs bad w h R (fun n r hb hm w' hg hr => hR n r false (manyL_some.1 hm).2 (fun _ => ⟨hb, hm⟩) (fun h => by cases h) w' hg hr) (fun hb w' n r hn hg hr => hR n r true hn (fun h => by cases h) (fun _ => hb) w' hg hr)
theorem small_any (p : Nat) (bs : List UInt8) (bad : Bool) (w : World) (h : Rd w p bs bad) (R : Ending → World → Prop)
    (hR : ∀ (n : Int) r (q : Bool), (q = false → bad = false ∧ ∃ m : Nat, n = (m : Int) ∧ smallL bs = some (m, r)) → (q = true → bad = true ∨ smallL bs = none) → ∀ w', w.grownBy w' (some p) → Rd w' p r q → R (.returned (.int .i64 n)) w') :
    Calls Tryz.prog 104 #[.pointer (some ⟨p, 0, none⟩)] w R :=
  small_calls p bs bad w h R (fun n r hb hm w' hg hr => hR n r false (fun _ => ⟨hb, n, rfl, hm⟩) (fun h => by cases h) w' hg hr) (fun hb w' n r hg hr => hR n r true (fun h => by cases h) (fun _ => hb) w' hg hr)
theorem text_any (p : Nat) (bs : List UInt8) (bad : Bool) (w : World) (h : Rd w p bs bad) (R : Ending → World → Prop)
    (hR : ∀ s r (q : Bool), s.size ≤ maxLen → (q = false → bad = false ∧ textL bs = some (s, r)) → (q = true → bad = true ∨ textL bs = none) → ∀ w', w.grownBy w' (some p) → Rd w' p r q → R (.returned (.string s)) w') :
    Calls Tryz.prog 103 #[.pointer (some ⟨p, 0, none⟩)] w R :=
  text_calls p bs bad w h R (fun s r hb hm w' hg hr => hR s r false (by
    obtain ⟨n, r', h1, rfl, _⟩ := textL_some.1 hm
    have h2 := manyL_short _ _ _ h1
    obtain ⟨v, T, _, hs⟩ := id h
    have := hs.max
    rw [strL_size, List.length_take]
    omega) (fun _ => ⟨hb, hm⟩) (fun h => by cases h) w' hg hr) (fun hb w' s r hsz hg hr => hR s r true hsz (fun h => by cases h) (fun _ => hb) w' hg hr)
end Go.Proofs.YtcakodemngchpaaGreatDoor

/- object.list at int and at api.Mend, with their closures. -/
namespace Go.Proofs.YtcakodemngchpaaGreatDoor
open Go.RowKit
set_option linter.unusedSimpArgs false
set_option linter.unusedVariables false
/-- A reader stays while a block above it is written. -/
theorem rd_far {w w' : World} {p b : Nat} {bs : List UInt8} {bad : Bool} (h : Rd w p bs bad) (hg : w.grownBy w' (some b)) (hb : p < b) : Rd w' p bs bad := by
  have hl := h.lt
  obtain ⟨v, T, h1, h2⟩ := h
  exact ⟨v, T, (hg.block p hl (by intro e; injection e with e; omega)).trans h1, h2.keep fun q hq => World.cell?_of_block (hg.block _ (by omega) (by intro e; injection e with e; omega))⟩

set_option maxHeartbeats 1000000 in
theorem oneInt_any (M p : Nat) (bs : List UInt8) (bad : Bool) (w : World) (hM : w.cell? ⟨M, 0, none⟩ = some (.pointer (some ⟨p, 0, none⟩))) (h : Rd w p bs bad) (R : Ending → World → Prop)
    (hR : ∀ (x : Int) r (q : Bool), (q = false → bad = false ∧ intL bs = some (x, r)) → (q = true → bad = true ∨ intL bs = none) → ∀ w', w.grownBy w' (some p) → Rd w' p r q → R (.returned (.int .i64 x)) w') :
    Calls Tryz.prog 106 #[.pointer (some ⟨M, 0, none⟩)] w R := by
  have HR := Lib.hid hR
  have Hrd := Lib.hid h
  clear hR h
  go_enter Tryz.func106, Tryz.ntmps106
  go_wp2_with fail
  refine Number_calls p bs bad _ Hrd.out _ (fun n r hn hb hnum w1 hg1 hr1 => ?_) (fun hbn w1 n r hn hg1 hr1 => ?_)
  · have Hf := Lib.hid (HR.out (unfoldN n) r false (fun _ => ⟨hb, by unfold intL; rw [hnum]; rfl⟩) (fun h => by cases h) w1 hg1 hr1)
    clear hg1 hr1 hnum hb
    go_wp2_with fail
    refine Unfold_calls n hn _ _ ?_
    go_wp2
    exact Hf.out
  · have Hf := Lib.hid (HR.out (unfoldN n) r true (fun h => by cases h) (fun _ => by
      rcases hbn with h | h
      · exact .inl h
      · right
        unfold intL
        rw [h]
        rfl) w1 hg1 hr1)
    clear hg1 hr1 hbn
    go_wp2_with fail
    refine Unfold_calls n hn _ _ ?_
    go_wp2
    exact Hf.out

set_option maxRecDepth 100000 in
set_option maxHeartbeats 4000000 in
theorem listInt_calls (p : Nat) (bs : List UInt8) (bad : Bool) (w : World) (h : Rd w p bs bad) (hlen : bad = false → bs.length ≤ 100000) (M : Nat) (hM : w.cell? ⟨M, 0, none⟩ = some (.pointer (some ⟨p, 0, none⟩))) (hMp : M ≠ p) (R : Ending → World → Prop)
    (hR : ∀ (xs : List Int) (r : List UInt8) (q : Bool), (q = false → bad = false ∧ listL intL bs = some (xs, r)) → (q = true → bad = true ∨ listL intL bs = none) → ∀ w' v, w.grownBy w' (some p) → Rd w' p r q → rpInt.SLF w' w.heap.size w'.heap.size xs v → R (.returned v) w') :
    Calls Tryz.prog 105 #[.pointer (some ⟨p, 0, none⟩), .func (.func 106) #[] #[.pointer (some ⟨M, 0, none⟩)]] w R := by
  obtain ⟨iB, hi, zb0, zb1, zb2⟩ := info_parts info_int3
  have hpl := h.lt
  have HR := Lib.hid hR
  have Hrd := Lib.hid h
  clear hR h
  go_enter Tryz.func105, Tryz.ntmps105
  go_wp2_with fail
  refine many_any p bs bad _ Hrd.out _ (fun n0 r0 q0 hle hq0 hq1 w0 hg0 hr0 => ?_)
  have L0 : Hid (q0 = false → bad = false ∧ (timesL intL n0 r0).map (fun y => (([] : List Int) ++ y.1, y.2)) = listL intL bs ∧ n0 + 0 ≤ 100000 ∧ r0.length ≤ 100000) := Lib.hid fun hq => by
    obtain ⟨h1, h2⟩ := hq0 hq
    have h3 := manyL_short _ _ _ h2
    have h4 := hlen h1
    refine ⟨h1, ?_, by omega, by omega⟩
    unfold listL
    rw [h2]
    show _ = timesL intL n0 r0
    cases timesL intL n0 r0 <;> rfl
  have L1 : Hid (q0 = true → bad = true ∨ listL intL bs = none) := Lib.hid fun hq => by
    rcases hq1 hq with h1 | h1
    · exact .inl h1
    · right
      unfold listL
      rw [h1]
      rfl
  have Hg0 := Lib.hid hg0
  have Hr0 := Lib.hid hr0
  clear hq0 hq1 hg0 hr0 hle
  go_wp2
  go_loopg [5, 6] n0 (fun gh out s6 wr => ∃ (n : Nat) (xs : List Int) (css : List (List Value)) (r : List UInt8) (q : Bool), gh = n ∧ s6 = .int .i64 (n : Int) ∧ Built rpInt w.heap.size 3 (fun b => b < w.heap.size) wr out xs css ∧ Rd wr p r q ∧ w.grownBy wr (some p) ∧
    (q = false → bad = false ∧ (timesL intL n r).map (fun y => (xs ++ y.1, y.2)) = listL intL bs ∧ n + xs.length ≤ 100000 ∧ r.length ≤ 100000) ∧ (q = true → bad = true ∨ listL intL bs = none))
  case atStart => exact ⟨n0, [], [], r0, q0, rfl, rfl, Built.nil _ _ _ _ _ (fun _ h => h), Hr0.out, Hg0.out, L0.out, L1.out⟩
  case round =>
    obtain ⟨n, xs, css, r, q, hgh, rfl, hB, hrd, hgr, l0, l1⟩ := hrel
    have hpw := hrd.lt
    have hsz := hgr.size
    obtain ⟨vr, Tr, hblk, hsv⟩ := id hrd
    obtain ⟨A9, n9, rfl, _, _, _⟩ := hsv.cases_
    obtain ⟨c0, c1, z0, z1⟩ := cells_of_block hblk
    have HB := Lib.hid hB
    have HRd := Lib.hid hrd
    have Hgr := Lib.hid hgr
    have M0 := Lib.hid l0
    have M1 := Lib.hid l1
    have Hgh := Lib.hid hgh
    clear hB hrd hgr l0 l1 hblk hgh hsv
    have hexit : Hid ((q = true ∨ n = 0) → R (.returned u5) wr) := Lib.hid fun hx => by
      refine HR.out xs r q (fun hq => ?_) M1.out wr u5 Hgr.out HRd.out (HB.out.SLF (fun k hk => hk) (Nat.le_refl _) (Nat.le_refl _))
      obtain ⟨h1, h2, _, _⟩ := M0.out hq
      refine ⟨h1, ?_⟩
      rcases hx with hx | hx
      · rw [hq] at hx
        cases hx
      · subst hx
        rw [← h2]
        simp [timesL]
    cases q
    rotate_left
    · have hf := Lib.hid (hexit.out (.inl rfl))
      clear hexit
      by_cases hn : 0 < n
      · have i0 : (0 : Int) < (n : Int) := by omega
        go_wp2
        exact hf.out
      · have i0 : ¬ (0 : Int) < (n : Int) := by omega
        go_wp2
        exact hf.out
    · by_cases hn : n = 0
      · have hf := Lib.hid (hexit.out (.inr hn))
        have i0 : ¬ (0 : Int) < (n : Int) := by omega
        clear hexit
        go_wp2
        all_goals first | exact hf.out | (exfalso; omega)
      · have i0 : (0 : Int) < (n : Int) := by omega
        obtain ⟨m, rfl⟩ : ∃ m, n = m + 1 := ⟨n - 1, by omega⟩
        obtain ⟨hb, ht, hnl, hrl⟩ := M0.out rfl
        have Ht := Lib.hid ht
        have Hbb := Lib.hid hb
        obtain ⟨A5, n5, hu5⟩ : ∃ A c, u5 = .slice A xs.length c := own_slice HB.out.own
        subst hu5
        clear hexit hn ht hb
        have hMl : M < w.heap.size := World.block_lt_of_cell? w _ hM
        have hMr : wr.cell? ⟨M, 0, none⟩ = some (.pointer (some ⟨p, 0, none⟩)) := (World.cell?_of_block (w := w) (Hgr.out.block M hMl (by intro e; injection e with e; exact hMp e))).trans hM
        go_wp2_with fail
        refine oneInt_any M p r false _ hMr HRd.out _ (fun x r2 q2 h0 h1 w1 hg1 hr1 => ?_)
        have hsz1 := hg1.size
        have hkp : ∀ k, k < wr.heap.size → ¬ k < w.heap.size → w1.heap[k]? = wr.heap[k]? := fun k hk hn => hg1.block k hk (by intro e; injection e with e; omega)
        have hB1 := (HB.out.keep hsz1 hkp).alloc (Obj.cells #[.int .i64 x] 3)
        have hA : Apart rpInt (fun b => b < w.heap.size) (w1.alloc (Obj.cells #[.int .i64 x] 3)) (.slice A5 xs.length n5) x [.int .i64 x] := by
          refine Apart.of_only (base := wr.heap.size) (show [_] = [_] from rfl) (fun k hk => by omega) (fun g hg => (HB.out.own.lt g hg).2)
        have Hr1 := Lib.hid hr1
        have HB1 := Lib.hid hB1
        have HA := Lib.hid hA
        have hgw := Lib.hid (grown_trans Hgr.out hg1)
        have hW : Hid ((w1.alloc (Obj.cells #[.int .i64 x] 3)).ownsRow w.heap.size 3 1 (.slice A5 xs.length n5) xs.length css.flatten) := Lib.hid hB1.own
        have hN0 : Hid (q2 = false → bad = false ∧ (timesL intL m r2).map (fun y => ((xs ++ [x]) ++ y.1, y.2)) = listL intL bs ∧ m + (xs ++ [x]).length ≤ 100000 ∧ r2.length ≤ 100000) := Lib.hid fun hq => by
          have h2 := (h0 hq).2
          have h3 := intL_short _ _ _ h2
          refine ⟨Hbb.out, ?_, by rw [List.length_append]; simp; omega, by omega⟩
          rw [← timesL_step h2]
          exact Ht.out
        have hN1 : Hid (q2 = true → bad = true ∨ listL intL bs = none) := Lib.hid fun hq => by
          rcases h1 hq with h2 | h2
          · cases h2
          · right
            have := Ht.out
            rw [timesL_none h2] at this
            exact this.symm
        clear hg1 hr1 hB1 hA hkp h0 h1
        go_wp2_with (at_builtin; refine wpList_append_lies _ rfl _ _ 31 rfl w.heap.size 3 iB _ 1 8 Tryz.underlying31 hi zb0 zb1 zb2 rfl (by decide) (.slice A5 xs.length n5) xs.length css.flatten rfl hW.out ⟨w1.heap.size, 0, none⟩ 1 1 [.int .i64 x] rfl rfl ?_ ?_ (by decide) ?_ ?_ ?_ _ rfl ?_)
        any_goals (first | exact World.news_of_block (cs := #[.int .i64 x]) (t := 3) (fr := (0, 0)) (heap_alloc_new _ _) | (simp [Value.oneCell']; done) | (unfold maxLen; omega) | omega | (simp; done) | (simp; omega))
        intro gb cap w3 hown3 hgrow3 hat3 hlt3
        have hB3 := HB1.out.push hown3 rfl hgrow3 (by simpa using hat3) HA.out
        have hown : ∀ j, Value.ownBlock (.slice A5 xs.length n5) = some j → w.heap.size ≤ j := fun j hj => (HB.out.own.lt j hj).1
        have hgr3 := grown_row (grown_trans hgw.out (grown_of_below ((Below.refl _ _).alloc (Nat.le_refl _) (Obj.cells #[.int .i64 x] 3)) (some p))) hgrow3 hown
        have hr3 := Hr1.out.other ((Below.refl _ _).alloc (Nat.le_refl _) (Obj.cells #[.int .i64 x] 3))
        have hr4 : Rd w3 p r2 q2 := by
          have hl := hr3.lt
          obtain ⟨v8, T8, h8, h9⟩ := hr3
          refine ⟨v8, T8, (hgrow3.block p hl (fun e => by have := hown p e.symm; omega)).trans h8, h9.keep fun a ha => World.cell?_of_block (hgrow3.block _ (by omega) (fun e => by have := hown _ e.symm; omega))⟩
        have HB3 := Lib.hid hB3
        have Hgr3 := Lib.hid hgr3
        have Hr4 := Lib.hid hr4
        clear hown3 hgrow3 hat3 hB3 hown hgr3 hr3 hr4
        go_wp2
        go_roundg m
        case measure => have := Hgh.out; omega
        case rel => exact ⟨m, _, _, r2, q2, rfl, by go_num, HB3.out, Hr4.out, Hgr3.out, hN0.out, hN1.out⟩

theorem res_Mend {fn : Func} {p : Tmp} (h : fn.results = #[.cell p 84]) {tmps : Array Value} {b : Nat} {w : World} {x y : Value} {T : TypeId} (hp : tmps.getD p undef = .pointer (some ⟨b, 0, none⟩))
    (hc : w.heap[b]? = some (.cells #[x, y] T (0, 0))) : (results fn tmps).run Tryz.prog w = .ok (.agg #[x, y]) w := by
  obtain ⟨c0, c1⟩ := cells_blk hc
  rw [Array.getD_eq_getD_getElem?] at hp
  simp [results, h, hp, go_sem, c0, c1]
theorem small_short : Short smallL := fun bs n r h => numberL_short _ _ _ (smallL_some.1 h).1
theorem mendL_short : Short mendL := fun bs m r h => by
  unfold mendL at h
  rw [Option.bind_eq_some_iff] at h
  obtain ⟨⟨n, r1⟩, h1, h2⟩ := h
  rw [Option.map_eq_some_iff] at h2
  obtain ⟨⟨s, r2⟩, h3, h4⟩ := h2
  obtain ⟨_, rfl⟩ := Prod.mk.inj h4
  have := small_short _ _ _ h1
  have := textL_short _ _ _ h3
  simp only [] at *
  omega
/-- Two things that are read, one behind the other. -/
theorem two_read {α β γ : Type} {A : Prs α} {B : Prs β} {f : α → β → γ} {bs r1 r2 : List UInt8} {bad q1 q2 : Bool} {x : α} {y : β} {C : Prs γ} (hC : ∀ bs, C bs = (A bs).bind fun a => (B a.2).map fun b => (f a.1 b.1, b.2))
    (a0 : q1 = false → bad = false ∧ A bs = some (x, r1)) (a1 : q1 = true → bad = true ∨ A bs = none) (b0 : q2 = false → q1 = false ∧ B r1 = some (y, r2)) (b1 : q2 = true → q1 = true ∨ B r1 = none) :
    (q2 = false → bad = false ∧ C bs = some (f x y, r2)) ∧ (q2 = true → bad = true ∨ C bs = none) := by
  constructor
  · intro h
    obtain ⟨h1, h2⟩ := b0 h
    obtain ⟨h3, h4⟩ := a0 h1
    refine ⟨h3, ?_⟩
    rw [hC, h4]
    simp [h2]
  · intro h
    cases q1
    · obtain ⟨h3, h4⟩ := a0 rfl
      rcases b1 h with h5 | h5
      · cases h5
      · right
        rw [hC, h4]
        simp [h5]
    · rcases a1 rfl with h5 | h5
      · exact .inl h5
      · right
        rw [hC, h5]
        rfl

set_option maxHeartbeats 1000000 in
theorem oneMend_any (M p : Nat) (bs : List UInt8) (bad : Bool) (w : World) (hM : w.cell? ⟨M, 0, none⟩ = some (.pointer (some ⟨p, 0, none⟩))) (hMp : M ≠ p) (h : Rd w p bs bad) (R : Ending → World → Prop)
    (hR : ∀ (x : Mend) r (q : Bool), (q = false → bad = false ∧ mendL bs = some (x, r)) → (q = true → bad = true ∨ mendL bs = none) → ∀ w', w.grownBy w' (some p) → Rd w' p r q → R (.returned (.agg #[.int .i64 x.at_, .string x.name])) w') :
    Calls Tryz.prog 109 #[.pointer (some ⟨M, 0, none⟩)] w R := by
  have HR := Lib.hid hR
  have hMl : M < w.heap.size := World.block_lt_of_cell? w _ hM
  have hpl := h.lt
  have hV := heap_alloc_new w (Obj.cells #[.int .i64 0, .string ByteArray.empty] 84)
  have hr0 := Lib.hid (h.other ((Below.refl _ _).alloc (Nat.le_refl _) (Obj.cells #[.int .i64 0, .string ByteArray.empty] 84)))
  have hg0 := grown_of_below ((Below.refl _ _).alloc (Nat.le_refl _) (Obj.cells #[.int .i64 0, .string ByteArray.empty] 84)) (w := w) (some p)
  have HV := Lib.hid hV
  have Hg0 := Lib.hid hg0
  have HM := Lib.hid hM
  clear hR h hV hg0
  go_enter Tryz.func109, Tryz.ntmps109
  go_wp2_with fail
  refine small_any p bs bad _ hr0.out _ (fun n r1 q1 a0 a1 w1 hg1 hr1 => ?_)
  have hz1 := hg1.size
  simp at hz1
  have hM1 : w1.cell? ⟨M, 0, none⟩ = some (.pointer (some ⟨p, 0, none⟩)) := (World.cell?_of_block (hg1.block M (by simp; omega) (by intro e; injection e with e; exact hMp e))).trans ((World.cell?_alloc_lt _ _ _ (by exact hMl)).trans HM.out)
  have hV1 := (hg1.block w.heap.size (by simp) (by intro e; injection e with e; omega)).trans HV.out
  have HV1 := Lib.hid hV1
  have Hg1 := Lib.hid (grown_trans Hg0.out hg1)
  have Hr1 := Lib.hid hr1
  have A0 : Hid (q1 = false → bad = false ∧ (smallL bs).map (fun x => ((x.1 : Int), x.2)) = some (n, r1)) := Lib.hid fun hq => by
    obtain ⟨h1, m, rfl, h2⟩ := a0 hq
    exact ⟨h1, by rw [h2]; rfl⟩
  have A1 : Hid (q1 = true → bad = true ∨ (smallL bs).map (fun x => ((x.1 : Int), x.2)) = none) := Lib.hid fun hq => by
    rcases a1 hq with h1 | h1
    · exact .inl h1
    · right
      rw [h1]
      rfl
  clear hM hg1 hr1 hV1 a0 a1
  go_wp2_with fail
  refine text_any p r1 q1 _ Hr1.out _ (fun s r2 q2 hs b0 b1 w2 hg2 hr2 => ?_)
  have hz2 := hg2.size
  have hV2 := (hg2.block w.heap.size (by omega) (by intro e; injection e with e; omega)).trans HV1.out
  obtain ⟨c0, c1, z0, z1⟩ := cells_of_block hV2
  obtain ⟨l0, l1⟩ := two_read (A := fun bs => (smallL bs).map (fun x => ((x.1 : Int), x.2))) (B := textL) (C := mendL) (f := fun a b => (⟨a, b⟩ : Mend)) (fun bs => by
    unfold mendL
    cases smallL bs <;> rfl) A0.out A1.out b0 b1
  have HV2 := Lib.hid hV2
  have hfin := fun w' hg hr => HR.out ⟨n, s⟩ r2 q2 l0 l1 w' hg hr
  have Hfin := Lib.hid hfin
  have Hg2 := Lib.hid (grown_trans Hg1.out hg2)
  have Hr2 := Lib.hid hr2
  clear hg2 hr2 hV2 b0 b1 l0 l1 hfin
  go_wp2
  refine bodyPost_ret (v := .agg #[.int .i64 n, .string s]) (res_Mend (by rfl) (by rfl) (blkp HV2.out)) rfl ?_
  have hgs : ∀ u v, w2.grownBy ((w2.setCell ⟨w.heap.size, 0, none⟩ u).setCell ⟨w.heap.size, 1, none⟩ v) (some w.heap.size) := fun u v => grown_trans (grown_setCell w2 ⟨w.heap.size, 0, none⟩ u) (grown_setCell _ ⟨w.heap.size, 1, none⟩ v)
  exact Hfin.out _ (grown_row Hg2.out (hgs _ _) (fun j e => by injection e with e; omega)) (rd_far Hr2.out (hgs _ _) hpl)

set_option maxRecDepth 100000 in
set_option maxHeartbeats 4000000 in
theorem listMend_calls (p : Nat) (bs : List UInt8) (bad : Bool) (w : World) (h : Rd w p bs bad) (hlen : bad = false → bs.length ≤ 100000) (M : Nat) (hM : w.cell? ⟨M, 0, none⟩ = some (.pointer (some ⟨p, 0, none⟩))) (hMp : M ≠ p) (R : Ending → World → Prop)
    (hR : ∀ (xs : List Mend) (r : List UInt8) (q : Bool), (q = false → bad = false ∧ listL mendL bs = some (xs, r)) → (q = true → bad = true ∨ listL mendL bs = none) → ∀ w' v, w.grownBy w' (some p) → Rd w' p r q → rpMend.SLF w' w.heap.size w'.heap.size xs v → R (.returned v) w') :
    Calls Tryz.prog 108 #[.pointer (some ⟨p, 0, none⟩), .func (.func 109) #[] #[.pointer (some ⟨M, 0, none⟩)]] w R := by
  obtain ⟨iB, hi, zb0, zb1, zb2⟩ := info_parts info_Mend
  have hpl := h.lt
  have HR := Lib.hid hR
  have Hrd := Lib.hid h
  clear hR h
  go_enter Tryz.func108, Tryz.ntmps108
  go_wp2_with fail
  refine many_any p bs bad _ Hrd.out _ (fun n0 r0 q0 hle hq0 hq1 w0 hg0 hr0 => ?_)
  have L0 : Hid (q0 = false → bad = false ∧ (timesL mendL n0 r0).map (fun y => (([] : List Mend) ++ y.1, y.2)) = listL mendL bs ∧ n0 + 0 ≤ 100000 ∧ r0.length ≤ 100000) := Lib.hid fun hq => by
    obtain ⟨h1, h2⟩ := hq0 hq
    have h3 := manyL_short _ _ _ h2
    have h4 := hlen h1
    refine ⟨h1, ?_, by omega, by omega⟩
    unfold listL
    rw [h2]
    show _ = timesL mendL n0 r0
    cases timesL mendL n0 r0 <;> rfl
  have L1 : Hid (q0 = true → bad = true ∨ listL mendL bs = none) := Lib.hid fun hq => by
    rcases hq1 hq with h1 | h1
    · exact .inl h1
    · right
      unfold listL
      rw [h1]
      rfl
  have Hg0 := Lib.hid hg0
  have Hr0 := Lib.hid hr0
  clear hq0 hq1 hg0 hr0 hle
  go_wp2
  go_loopg [5, 6] n0 (fun gh out s6 wr => ∃ (n : Nat) (xs : List Mend) (css : List (List Value)) (r : List UInt8) (q : Bool), gh = n ∧ s6 = .int .i64 (n : Int) ∧ Built rpMend w.heap.size 84 (fun b => b < w.heap.size) wr out xs css ∧ Rd wr p r q ∧ w.grownBy wr (some p) ∧
    (q = false → bad = false ∧ (timesL mendL n r).map (fun y => (xs ++ y.1, y.2)) = listL mendL bs ∧ n + xs.length ≤ 100000 ∧ r.length ≤ 100000) ∧ (q = true → bad = true ∨ listL mendL bs = none))
  case atStart => exact ⟨n0, [], [], r0, q0, rfl, rfl, Built.nil _ _ _ _ _ (fun _ h => h), Hr0.out, Hg0.out, L0.out, L1.out⟩
  case round =>
    obtain ⟨n, xs, css, r, q, hgh, rfl, hB, hrd, hgr, l0, l1⟩ := hrel
    have hpw := hrd.lt
    have hsz := hgr.size
    obtain ⟨vr, Tr, hblk, hsv⟩ := id hrd
    obtain ⟨A9, n9, rfl, _, _, _⟩ := hsv.cases_
    obtain ⟨c0, c1, z0, z1⟩ := cells_of_block hblk
    have HB := Lib.hid hB
    have HRd := Lib.hid hrd
    have Hgr := Lib.hid hgr
    have M0 := Lib.hid l0
    have M1 := Lib.hid l1
    have Hgh := Lib.hid hgh
    clear hB hrd hgr l0 l1 hblk hgh hsv
    have hexit : Hid ((q = true ∨ n = 0) → R (.returned u5) wr) := Lib.hid fun hx => by
      refine HR.out xs r q (fun hq => ?_) M1.out wr u5 Hgr.out HRd.out (HB.out.SLF (fun k hk => hk) (Nat.le_refl _) (Nat.le_refl _))
      obtain ⟨h1, h2, _, _⟩ := M0.out hq
      refine ⟨h1, ?_⟩
      rcases hx with hx | hx
      · rw [hq] at hx
        cases hx
      · subst hx
        rw [← h2]
        simp [timesL]
    cases q
    rotate_left
    · have hf := Lib.hid (hexit.out (.inl rfl))
      clear hexit
      by_cases hn : 0 < n
      · have i0 : (0 : Int) < (n : Int) := by omega
        go_wp2
        exact hf.out
      · have i0 : ¬ (0 : Int) < (n : Int) := by omega
        go_wp2
        exact hf.out
    · by_cases hn : n = 0
      · have hf := Lib.hid (hexit.out (.inr hn))
        have i0 : ¬ (0 : Int) < (n : Int) := by omega
        clear hexit
        go_wp2
        all_goals first | exact hf.out | (exfalso; omega)
      · have i0 : (0 : Int) < (n : Int) := by omega
        obtain ⟨m, rfl⟩ : ∃ m, n = m + 1 := ⟨n - 1, by omega⟩
        obtain ⟨hb, ht, hnl, hrl⟩ := M0.out rfl
        have Ht := Lib.hid ht
        have Hbb := Lib.hid hb
        obtain ⟨A5, n5, hu5⟩ : ∃ A c, u5 = .slice A xs.length c := own_slice HB.out.own
        subst hu5
        clear hexit hn ht hb
        have hMl : M < w.heap.size := World.block_lt_of_cell? w _ hM
        have hMr : wr.cell? ⟨M, 0, none⟩ = some (.pointer (some ⟨p, 0, none⟩)) := (World.cell?_of_block (w := w) (Hgr.out.block M hMl (by intro e; injection e with e; exact hMp e))).trans hM
        go_wp2_with fail
        refine oneMend_any M p r false _ hMr hMp HRd.out _ (fun x r2 q2 h0 h1 w1 hg1 hr1 => ?_)
        have hsz1 := hg1.size
        have hkp : ∀ k, k < wr.heap.size → ¬ k < w.heap.size → w1.heap[k]? = wr.heap[k]? := fun k hk hn => hg1.block k hk (by intro e; injection e with e; omega)
        have hB1 := (HB.out.keep hsz1 hkp).alloc (Obj.cells #[.int .i64 x.at_, .string x.name] 84)
        have hA : Apart rpMend (fun b => b < w.heap.size) (w1.alloc (Obj.cells #[.int .i64 x.at_, .string x.name] 84)) (.slice A5 xs.length n5) x [.int .i64 x.at_, .string x.name] := by
          refine Apart.of_only (base := wr.heap.size) (rpMend_rep.2 rfl) (fun k hk => by omega) (fun g hg => (HB.out.own.lt g hg).2)
        have Hr1 := Lib.hid hr1
        have HB1 := Lib.hid hB1
        have HA := Lib.hid hA
        have hgw := Lib.hid (grown_trans Hgr.out hg1)
        have hW : Hid ((w1.alloc (Obj.cells #[.int .i64 x.at_, .string x.name] 84)).ownsRow w.heap.size 84 2 (.slice A5 xs.length n5) xs.length css.flatten) := Lib.hid hB1.own
        have hN0 : Hid (q2 = false → bad = false ∧ (timesL mendL m r2).map (fun y => ((xs ++ [x]) ++ y.1, y.2)) = listL mendL bs ∧ m + (xs ++ [x]).length ≤ 100000 ∧ r2.length ≤ 100000) := Lib.hid fun hq => by
          have h2 := (h0 hq).2
          have h3 := mendL_short _ _ _ h2
          refine ⟨Hbb.out, ?_, by rw [List.length_append]; simp; omega, by omega⟩
          rw [← timesL_step h2]
          exact Ht.out
        have hN1 : Hid (q2 = true → bad = true ∨ listL mendL bs = none) := Lib.hid fun hq => by
          rcases h1 hq with h2 | h2
          · cases h2
          · right
            have := Ht.out
            rw [timesL_none h2] at this
            exact this.symm
        clear hg1 hr1 hB1 hA hkp h0 h1
        go_wp2_with (at_builtin; refine wpList_append_lies _ rfl _ _ 56 rfl w.heap.size 84 iB _ 2 24 Tryz.underlying56 hi zb0 zb1 zb2 rfl (by decide) (.slice A5 xs.length n5) xs.length css.flatten rfl hW.out ⟨w1.heap.size, 0, none⟩ 1 1 [.int .i64 x.at_, .string x.name] rfl rfl ?_ ?_ (by decide) ?_ ?_ ?_ _ rfl ?_)
        any_goals (first | exact World.news_of_block (cs := #[.int .i64 x.at_, .string x.name]) (t := 84) (fr := (0, 0)) (heap_alloc_new _ _) | (simp [Value.oneCell']; done) | (unfold maxLen; omega) | omega | (simp; done) | (simp; omega))
        intro gb cap w3 hown3 hgrow3 hat3 hlt3
        have hB3 := HB1.out.push hown3 rfl hgrow3 (by simpa using hat3) HA.out
        have hown : ∀ j, Value.ownBlock (.slice A5 xs.length n5) = some j → w.heap.size ≤ j := fun j hj => (HB.out.own.lt j hj).1
        have hgr3 := grown_row (grown_trans hgw.out (grown_of_below ((Below.refl _ _).alloc (Nat.le_refl _) (Obj.cells #[.int .i64 x.at_, .string x.name] 84)) (some p))) hgrow3 hown
        have hr3 := Hr1.out.other ((Below.refl _ _).alloc (Nat.le_refl _) (Obj.cells #[.int .i64 x.at_, .string x.name] 84))
        have hr4 : Rd w3 p r2 q2 := by
          have hl := hr3.lt
          obtain ⟨v8, T8, h8, h9⟩ := hr3
          refine ⟨v8, T8, (hgrow3.block p hl (fun e => by have := hown p e.symm; omega)).trans h8, h9.keep fun a ha => World.cell?_of_block (hgrow3.block _ (by omega) (fun e => by have := hown _ e.symm; omega))⟩
        have HB3 := Lib.hid hB3
        have Hgr3 := Lib.hid hgr3
        have Hr4 := Lib.hid hr4
        clear hown3 hgrow3 hat3 hB3 hown hgr3 hr3 hr4
        go_wp2
        go_roundg m
        case measure => have := Hgh.out; omega
        case rel => exact ⟨m, _, _, r2, q2, rfl, by go_num, HB3.out, Hr4.out, Hgr3.out, hN0.out, hN1.out⟩
end Go.Proofs.YtcakodemngchpaaGreatDoor

/- The reader's global and section; object.list of them. -/
namespace Go.Proofs.YtcakodemngchpaaGreatDoor
open Go.RowKit
set_option linter.unusedSimpArgs false
set_option linter.unusedVariables false

theorem three_set {w : World} {b : Nat} {x y z : Value} {T : TypeId} (h : w.heap[b]? = some (.cells #[x, y, z] T (0, 0))) : (∀ u, (w.setCell ⟨b, 0, none⟩ u).heap[b]? = some (.cells #[u, y, z] T (0, 0))) ∧ (∀ u, (w.setCell ⟨b, 1, none⟩ u).heap[b]? = some (.cells #[x, u, z] T (0, 0))) ∧ (∀ u, (w.setCell ⟨b, 2, none⟩ u).heap[b]? = some (.cells #[x, y, u] T (0, 0))) :=
  ⟨fun u => by rw [block_set h]; rfl, fun u => by rw [block_set h]; rfl, fun u => by rw [block_set h]; rfl⟩
theorem three_cells {w : World} {b : Nat} {x y z : Value} {T : TypeId} (h : w.heap[b]? = some (.cells #[x, y, z] T (0, 0))) : w.cell? ⟨b, 0, none⟩ = some x ∧ w.cell? ⟨b, 1, none⟩ = some y ∧ w.cell? ⟨b, 2, none⟩ = some z ∧ w.frozen? ⟨b, 0, none⟩ = false ∧ w.frozen? ⟨b, 1, none⟩ = false ∧ w.frozen? ⟨b, 2, none⟩ = false := by
  refine ⟨?_, ?_, ?_, ?_, ?_, ?_⟩ <;> simp [World.cell?, World.frozen?, h]
theorem res_Global {fn : Func} {p : Tmp} (h : fn.results = #[.cell p 118]) {tmps : Array Value} {b : Nat} {w : World} {x y z : Value} {T : TypeId} (hp : tmps.getD p undef = .pointer (some ⟨b, 0, none⟩))
    (hc : w.heap[b]? = some (.cells #[x, y, z] T (0, 0))) : (results fn tmps).run Tryz.prog w = .ok (.agg #[x, y, z]) w := by
  obtain ⟨c0, c1, c2, _⟩ := three_cells hc
  rw [Array.getD_eq_getD_getElem?] at hp
  simp [results, h, hp, go_sem, c0, c1, c2]
theorem res_Section {fn : Func} {p : Tmp} (h : fn.results = #[.cell p 58]) {tmps : Array Value} {b : Nat} {w : World} {x y z : Value} {T : TypeId} (hp : tmps.getD p undef = .pointer (some ⟨b, 0, none⟩))
    (hc : w.heap[b]? = some (.cells #[x, y, z] T (0, 0))) : (results fn tmps).run Tryz.prog w = .ok (.agg #[x, y, z]) w := by
  obtain ⟨c0, c1, c2, _⟩ := three_cells hc
  rw [Array.getD_eq_getD_getElem?] at hp
  simp [results, h, hp, go_sem, c0, c1, c2]
/-- Three things that are read, one behind the other. -/
theorem three_read {α β γ δ : Type} {A : Prs α} {B : Prs β} {C : Prs γ} {f : α → β → γ → δ} {bs r1 r2 r3 : List UInt8} {bad q1 q2 q3 : Bool} {x : α} {y : β} {z : γ} {D : Prs δ} (hD : ∀ bs, D bs = (A bs).bind fun a => (B a.2).bind fun b => (C b.2).map fun c => (f a.1 b.1 c.1, c.2))
    (a0 : q1 = false → bad = false ∧ A bs = some (x, r1)) (a1 : q1 = true → bad = true ∨ A bs = none) (b0 : q2 = false → q1 = false ∧ B r1 = some (y, r2)) (b1 : q2 = true → q1 = true ∨ B r1 = none)
    (c0 : q3 = false → q2 = false ∧ C r2 = some (z, r3)) (c1 : q3 = true → q2 = true ∨ C r2 = none) : (q3 = false → bad = false ∧ D bs = some (f x y z, r3)) ∧ (q3 = true → bad = true ∨ D bs = none) := by
  have hE := two_read (A := fun bs => (A bs).bind fun a => (B a.2).map fun b => ((a.1, b.1), b.2)) (B := C) (C := D) (f := fun a c => f a.1 a.2 c) (bs := bs) (r1 := r2) (r2 := r3) (bad := bad) (q1 := q2) (q2 := q3) (x := (x, y)) (y := z) (fun bs => by
    rw [hD]
    cases A bs with
    | none => rfl
    | some a =>
      cases hb : B a.2 with
      | none => simp [hb]
      | some b => simp [hb])
  have hab := two_read (A := A) (B := B) (C := fun bs => (A bs).bind fun a => (B a.2).map fun b => ((a.1, b.1), b.2)) (f := fun a b => (a, b)) (fun _ => rfl) a0 a1 b0 b1
  exact hE hab.1 hab.2 c0 c1
theorem globalL_short : Short globalL := fun bs g r h => by
  unfold globalL at h
  rw [Option.bind_eq_some_iff] at h
  obtain ⟨⟨s, r1⟩, h1, h2⟩ := h
  rw [Option.bind_eq_some_iff] at h2
  obtain ⟨⟨n, r2⟩, h3, h4⟩ := h2
  rw [Option.map_eq_some_iff] at h4
  obtain ⟨⟨xs, r3⟩, h5, h6⟩ := h4
  obtain ⟨_, rfl⟩ := Prod.mk.inj h6
  have := textL_short _ _ _ h1
  have := small_short _ _ _ h3
  have := listL_short intL_short _ _ _ h5
  simp only [] at *
  omega
theorem sectionL_short : Short sectionL := fun bs g r h => by
  unfold sectionL at h
  rw [Option.bind_eq_some_iff] at h
  obtain ⟨⟨s, r1⟩, h1, h2⟩ := h
  rw [Option.bind_eq_some_iff] at h2
  obtain ⟨⟨n, r2⟩, h3, h4⟩ := h2
  rw [Option.map_eq_some_iff] at h4
  obtain ⟨⟨xs, r3⟩, h5, h6⟩ := h4
  obtain ⟨_, rfl⟩ := Prod.mk.inj h6
  have := textL_short _ _ _ h1
  have := textL_short _ _ _ h3
  have := listL_short mendL_short _ _ _ h5
  simp only [] at *
  omega
/-- The reader behind a store into a block above it. -/
theorem rd_set {w : World} {p : Nat} {bs : List UInt8} {bad : Bool} (h : Rd w p bs bad) (a : Addr) (u : Value) (ha : p < a.block) : Rd (w.setCell a u) p bs bad := rd_far h (grown_setCell w a u) ha
theorem rd_alloc {w : World} {p : Nat} {bs : List UInt8} {bad : Bool} (h : Rd w p bs bad) (o : Obj) : Rd (w.alloc o) p bs bad := h.other ((Below.refl _ _).alloc (Nat.le_refl _) o)
theorem gr_alloc {w w' : World} {p : Nat} (h : w.grownBy w' (some p)) (o : Obj) : w.grownBy (w'.alloc o) (some p) := grown_trans h (grown_of_below ((Below.refl _ _).alloc (Nat.le_refl _) o) _)
theorem gr_set {w w' : World} {p : Nat} (h : w.grownBy w' (some p)) (a : Addr) (u : Value) (ha : w.heap.size ≤ a.block) : w.grownBy (w'.setCell a u) (some p) := grown_row h (grown_setCell w' a u) (fun j e => by injection e with e; omega)
theorem gr_blk {w w' : World} {p b : Nat} {X : Obj} (h : w.grownBy w' (some p)) (hb : w.heap[b]? = some X) (hne : b ≠ p) : w'.heap[b]? = some X := (h.block b (Array.getElem?_eq_some_iff.1 hb).1 (by intro e; injection e with e; exact hne e)).trans hb

set_option maxRecDepth 100000 in
set_option maxHeartbeats 4000000 in
theorem global_any (p : Nat) (bs : List UInt8) (bad : Bool) (w : World) (h : Rd w p bs bad) (hlen : bad = false → bs.length ≤ 100000) (R : Ending → World → Prop)
    (hR : ∀ (x : Global) r (q : Bool), (q = false → bad = false ∧ globalL bs = some (x, r)) → (q = true → bad = true ∨ globalL bs = none) → ∀ w' v, w.grownBy w' (some p) → Rd w' p r q → rpInt.SLF w' w.heap.size w'.heap.size x.init v → R (.returned (.agg #[.string x.name, .int .i64 x.size, v])) w') :
    Calls Tryz.prog 76 #[.pointer (some ⟨p, 0, none⟩)] w R := by
  have HR := Lib.hid hR
  have hpl := h.lt
  obtain ⟨W0, hW0⟩ : ∃ W0, W0 = (w.alloc (Obj.cells #[.pointer (some ⟨p, 0, none⟩)] 159)).alloc (Obj.cells #[.string ⟨#[]⟩, .int .i64 0, .slice none 0 0] 118) := ⟨_, rfl⟩
  have hz0 : W0.heap.size = w.heap.size + 2 := by subst hW0; simp
  have hM : W0.heap[w.heap.size]? = some (.cells #[.pointer (some ⟨p, 0, none⟩)] 159 (0, 0)) := by
    subst hW0
    exact blk_alloc (heap_alloc_new _ _) _
  have hV : W0.heap[w.heap.size + 1]? = some (.cells #[.string ⟨#[]⟩, .int .i64 0, .slice none 0 0] 118 (0, 0)) := by
    subst hW0
    have := heap_alloc_new (w.alloc (Obj.cells #[.pointer (some ⟨p, 0, none⟩)] 159)) (Obj.cells #[.string ⟨#[]⟩, .int .i64 0, .slice none 0 0] 118)
    simpa using this
  have hr0 : Rd W0 p bs bad := by subst hW0; exact rd_alloc (rd_alloc h _) _
  have hg0 : w.grownBy W0 (some p) := by subst hW0; exact gr_alloc (gr_alloc (grown_refl _ _) _) _
  have HM := Lib.hid hM
  have HV := Lib.hid hV
  have HW := Lib.hid hW0.symm
  have Hr0 := Lib.hid hr0
  have Hg0 := Lib.hid hg0
  obtain ⟨m0, _⟩ := one_blk hM
  clear hR h hM hV hr0 hg0 hW0
  go_enter Tryz.func76, Tryz.ntmps76
  go_wp2_with fail
  rw [HW.out]
  refine text_any p bs bad _ Hr0.out _ (fun s r1 q1 hs a0 a1 w1 hg1 hr1 => ?_)
  have hz1 := hg1.size
  rw [hz0] at hz1
  have hM1 := gr_blk hg1 HM.out (by omega)
  have hV1 := gr_blk hg1 HV.out (by omega)
  have hg1' := grown_trans Hg0.out hg1
  obtain ⟨W1, hW1⟩ : ∃ W1, W1 = w1.alloc (Obj.cells #[.string s, .int .i64 0, .slice none 0 0] 118) := ⟨_, rfl⟩
  have hM2 : W1.heap[w.heap.size]? = some (.cells #[.pointer (some ⟨p, 0, none⟩)] 159 (0, 0)) := by subst hW1; exact blk_alloc hM1 _
  have hV2 : W1.heap[w.heap.size + 1]? = some (.cells #[.string ⟨#[]⟩, .int .i64 0, .slice none 0 0] 118 (0, 0)) := by subst hW1; exact blk_alloc hV1 _
  have hG2 : W1.heap[w1.heap.size]? = some (.cells #[.string s, .int .i64 0, .slice none 0 0] 118 (0, 0)) := by subst hW1; exact heap_alloc_new _ _
  have hzW1 : W1.heap.size = w1.heap.size + 1 := by subst hW1; simp
  have hgW1 : w.grownBy W1 (some p) := by subst hW1; exact gr_alloc hg1' _
  have hrW1 : Rd W1 p r1 q1 := by subst hW1; exact rd_alloc hr1 _
  obtain ⟨m1, _⟩ := one_blk hM1
  have HM2 := Lib.hid hM2
  have HV2 := Lib.hid hV2
  have HG2 := Lib.hid hG2
  have Hg2 := Lib.hid hgW1
  have Hr2 := Lib.hid hrW1
  have HW1 := Lib.hid hW1.symm
  have A0 := Lib.hid a0
  have A1 := Lib.hid a1
  obtain ⟨m2, _⟩ := one_blk hM2
  have hmz : w.heap.size < w1.heap.size := by omega
  clear hM2 hV2 hG2 hgW1 hrW1 hW1 hg1 hr1 hM1 hV1 hg1' a0 a1 m0 HW
  go_wp2_with fail
  rw [HW1.out]
  refine small_any p r1 q1 _ Hr2.out _ (fun n r2 q2 b0 b1 w2 hg3 hr3 => ?_)
  have hz2 := hg3.size
  rw [hzW1] at hz2
  have hM3 := gr_blk hg3 HM2.out (by omega)
  have hV3 := gr_blk hg3 HV2.out (by omega)
  have hG3 := gr_blk hg3 HG2.out (by omega)
  obtain ⟨g0, g1, g2, y0, y1, y2⟩ := three_cells hG3
  obtain ⟨W2, hW2⟩ : ∃ W2, W2 = w2.setCell ⟨w1.heap.size, 1, none⟩ (.int .i64 n) := ⟨_, rfl⟩
  have hM4 : W2.heap[w.heap.size]? = some (.cells #[.pointer (some ⟨p, 0, none⟩)] 159 (0, 0)) := by subst hW2; exact blk_other hM3 (by omega) _
  have hV4 : W2.heap[w.heap.size + 1]? = some (.cells #[.string ⟨#[]⟩, .int .i64 0, .slice none 0 0] 118 (0, 0)) := by subst hW2; exact blk_other hV3 (by omega) _
  have hG4 : W2.heap[w1.heap.size]? = some (.cells #[.string s, .int .i64 n, .slice none 0 0] 118 (0, 0)) := by subst hW2; exact (three_set hG3).2.1 _
  have hzW2 : W2.heap.size = w2.heap.size := by subst hW2; simp [World.setCell]
  have hgW2 : w.grownBy W2 (some p) := by subst hW2; exact gr_set (grown_trans Hg2.out hg3) _ _ (by simp; omega)
  have hrW2 : Rd W2 p r2 q2 := by subst hW2; exact rd_set hr3 _ _ (by simp; omega)
  have HM4 := Lib.hid hM4
  have HV4 := Lib.hid hV4
  have HG4 := Lib.hid hG4
  have Hg4 := Lib.hid hgW2
  have Hr4 := Lib.hid hrW2
  have HW2 := Lib.hid hW2.symm
  have B0 : Hid (q2 = false → q1 = false ∧ (smallL r1).map (fun x => ((x.1 : Int), x.2)) = some (n, r2)) := Lib.hid fun hq => by
    obtain ⟨h1, m, rfl, h2⟩ := b0 hq
    exact ⟨h1, by rw [h2]; rfl⟩
  have B1 : Hid (q2 = true → q1 = true ∨ (smallL r1).map (fun x => ((x.1 : Int), x.2)) = none) := Lib.hid fun hq => by
    rcases b1 hq with h1 | h1
    · exact .inl h1
    · right
      rw [h1]
      rfl
  have hlen2 : q2 = false → r2.length ≤ 100000 := fun hq => by
    obtain ⟨h1, m, _, h2⟩ := b0 hq
    obtain ⟨h3, h4⟩ := A0.out h1
    have := small_short _ _ _ h2
    have := textL_short _ _ _ h4
    have := hlen h3
    omega
  have Hlen2 := Lib.hid hlen2
  obtain ⟨m4, _⟩ := one_blk hM4
  obtain ⟨m3, _⟩ := one_blk hM3
  have Hm4 := Lib.hid m4
  clear hM4 hV4 hG4 hgW2 hrW2 hW2 hg3 hr3 hM3 hV3 hG3 b0 b1 m1 m2 HW1 hlen2 m4
  go_wp2_with fail
  rw [HW2.out]
  refine listInt_calls p r2 q2 _ Hr4.out Hlen2.out w.heap.size Hm4.out (by omega) _ (fun xs r3 q3 c0 c1 w3 v hg5 hr5 hv => ?_)
  obtain ⟨A9, n9, rfl, _, _, hv⟩ := hv.cases_
  have hz3 := hg5.size
  rw [hzW2] at hz3 hv
  have hV5 := gr_blk hg5 HV4.out (by omega)
  have hG5 := gr_blk hg5 HG4.out (by omega)
  obtain ⟨e0, e1, e2, x0, x1, x2⟩ := three_cells hG5
  obtain ⟨f0, f1, f2, t0, t1, t2⟩ := three_cells hV5
  obtain ⟨l0, l1⟩ := three_read (A := textL) (B := fun bs => (smallL bs).map (fun x => ((x.1 : Int), x.2))) (C := listL intL) (D := globalL) (f := fun a b c => (⟨a, b, c⟩ : Global)) (fun bs => by
    unfold globalL
    cases textL bs with
    | none => rfl
    | some a =>
      simp only [Option.bind_some]
      cases smallL a.2 <;> rfl) A0.out A1.out B0.out B1.out c0 c1
  have HV5 := Lib.hid hV5
  have Hr5 := Lib.hid hr5
  have Hg5 := Lib.hid (grown_trans Hg4.out hg5)
  have Hv := Lib.hid hv
  have Hfin := Lib.hid (fun w' v hg hr => HR.out ⟨s, n, xs⟩ r3 q3 l0 l1 w' v hg hr)
  have hq1 : w1.heap.size < w3.heap.size := by omega
  have hq2 : w.heap.size + 1 < w3.heap.size := by omega
  clear hg5 hr5 hv hV5 hG5 c0 c1 l0 l1 m3 HW2 g0 g1 g2 y0 y1 y2
  go_wp2
  refine bodyPost_ret (v := .agg #[.string s, .int .i64 n, .slice A9 xs.length n9]) (res_Global (T := 118) (by rfl) (by rfl) ?_) rfl ?_
  · exact (three_set ((three_set ((three_set (blk_other (c := w1.heap.size) (j := 2) HV5.out (by omega) _)).1 _)).2.1 _)).2.2 _
  · have hG := gr_set (gr_set (gr_set (gr_set Hg5.out ⟨w1.heap.size, 2, none⟩ (.slice A9 xs.length n9) (by simp; omega)) ⟨w.heap.size + 1, 0, none⟩ (.string s) (by simp)) ⟨w.heap.size + 1, 1, none⟩ (.int .i64 n) (by simp)) ⟨w.heap.size + 1, 2, none⟩ (.slice A9 xs.length n9) (by simp)
    have hRd := rd_set (rd_set (rd_set (rd_set Hr5.out ⟨w1.heap.size, 2, none⟩ (.slice A9 xs.length n9) (by simp; omega)) ⟨w.heap.size + 1, 0, none⟩ (.string s) (by simp; omega)) ⟨w.heap.size + 1, 1, none⟩ (.int .i64 n) (by simp; omega)) ⟨w.heap.size + 1, 2, none⟩ (.slice A9 xs.length n9) (by simp; omega)
    have hS := ((((Hv.out.setCell ⟨w1.heap.size, 2, none⟩ (by simp; omega) (.slice A9 xs.length n9)).setCell ⟨w.heap.size + 1, 0, none⟩ (by simp; omega) (.string s)).setCell ⟨w.heap.size + 1, 1, none⟩ (by simp; omega) (.int .i64 n)).setCell ⟨w.heap.size + 1, 2, none⟩ (by simp; omega) (.slice A9 xs.length n9)).more (b' := w.heap.size) (by omega) (Nat.le_refl _)
    exact Hfin.out _ _ hG hRd (hS.more (Nat.le_refl _) (by simp [World.setCell]))

theorem conv_text (w : World) (s : ByteArray) (hs : s.size ≤ maxLen) : ∃ W cap, (convert 9 25 (.string s)).run Tryz.prog w = .ok (.slice (some ⟨w.heap.size, 0, none⟩) s.size cap) W ∧ Below w.heap.size w W ∧ W.heap.size = w.heap.size + 1 ∧
    rpByte.SLF W w.heap.size W.heap.size s.data.toList (.slice (some ⟨w.heap.size, 0, none⟩) s.size cap) := by
  have hl : s.data.toList.length = s.size := by rw [Array.length_toList]; rfl
  refine ⟨_, _, Lib.run_convert_string_bytes w 9 25 5 s Tryz.underlying9 Tryz.underlying25 Tryz.underlying5, ⟨rfl, rfl, rfl, by rw [Lib.bytesWorld_size]; omega, fun k hk => Lib.bytesWorld_at_old w _ s k hk⟩, Lib.bytesWorld_size _ _ _, ?_⟩
  refine ⟨_, _, by rw [hl], by rw [hl]; exact hs, by rw [hl]; exact grownCap_ge _ _ _ _, fun hp => ⟨w.heap.size, 0, rfl, by rw [Lib.bytesWorld_size]; omega, fun k x hk => ⟨[.int .u8 x.toNat], rfl, fun j u hj => ?_⟩⟩⟩
  have hj1 : j = 0 := by
    have := (List.getElem?_eq_some_iff.1 hj).1
    simp at this
    exact this
  subst hj1
  simp at hj
  subst hj
  have hkl : k < s.size := by rw [← hl]; exact (List.getElem?_eq_some_iff.1 hk).1
  rw [only_cell_of _ _ _ (by simp)]
  have := Lib.bytesWorld_cell w 5 s k hkl
  rw [List.getD_eq_getElem?_getD, hk] at this
  simpa [rpByte] using this

set_option maxRecDepth 100000 in
set_option maxHeartbeats 4000000 in
theorem section_any (p : Nat) (bs : List UInt8) (bad : Bool) (w : World) (h : Rd w p bs bad) (hlen : bad = false → bs.length ≤ 100000) (R : Ending → World → Prop)
    (hR : ∀ (x : Section) r (q : Bool), (q = false → bad = false ∧ sectionL bs = some (x, r)) → (q = true → bad = true ∨ sectionL bs = none) → ∀ w' v1 v2, w.grownBy w' (some p) → Rd w' p r q → rpByte.SLF w' w.heap.size w'.heap.size x.code v1 → rpMend.SLF w' w.heap.size w'.heap.size x.mends v2 → R (.returned (.agg #[.string x.name, v1, v2])) w') :
    Calls Tryz.prog 78 #[.pointer (some ⟨p, 0, none⟩)] w R := by
  have HR := Lib.hid hR
  have hpl := h.lt
  obtain ⟨W0, hW0⟩ : ∃ W0, W0 = (w.alloc (Obj.cells #[.pointer (some ⟨p, 0, none⟩)] 159)).alloc (Obj.cells #[.string ⟨#[]⟩, .slice none 0 0, .slice none 0 0] 58) := ⟨_, rfl⟩
  have hz0 : W0.heap.size = w.heap.size + 2 := by subst hW0; simp
  have hM : W0.heap[w.heap.size]? = some (.cells #[.pointer (some ⟨p, 0, none⟩)] 159 (0, 0)) := by
    subst hW0
    exact blk_alloc (heap_alloc_new _ _) _
  have hV : W0.heap[w.heap.size + 1]? = some (.cells #[.string ⟨#[]⟩, .slice none 0 0, .slice none 0 0] 58 (0, 0)) := by
    subst hW0
    have := heap_alloc_new (w.alloc (Obj.cells #[.pointer (some ⟨p, 0, none⟩)] 159)) (Obj.cells #[.string ⟨#[]⟩, .slice none 0 0, .slice none 0 0] 58)
    simpa using this
  have hr0 : Rd W0 p bs bad := by subst hW0; exact rd_alloc (rd_alloc h _) _
  have hg0 : w.grownBy W0 (some p) := by subst hW0; exact gr_alloc (gr_alloc (grown_refl _ _) _) _
  have HM := Lib.hid hM
  have HV := Lib.hid hV
  have HW := Lib.hid hW0.symm
  have Hr0 := Lib.hid hr0
  have Hg0 := Lib.hid hg0
  obtain ⟨m0, _⟩ := one_blk hM
  clear hR h hM hV hr0 hg0 hW0
  go_enter Tryz.func78, Tryz.ntmps78
  go_wp2_with fail
  rw [HW.out]
  refine text_any p bs bad _ Hr0.out _ (fun s r1 q1 hs a0 a1 w1 hg1 hr1 => ?_)
  have hz1 := hg1.size
  rw [hz0] at hz1
  have hM1 := gr_blk hg1 HM.out (by omega)
  have hV1 := gr_blk hg1 HV.out (by omega)
  have hg1' := grown_trans Hg0.out hg1
  obtain ⟨W1, hW1⟩ : ∃ W1, W1 = w1.alloc (Obj.cells #[.string s, .slice none 0 0, .slice none 0 0] 58) := ⟨_, rfl⟩
  have hM2 : W1.heap[w.heap.size]? = some (.cells #[.pointer (some ⟨p, 0, none⟩)] 159 (0, 0)) := by subst hW1; exact blk_alloc hM1 _
  have hV2 : W1.heap[w.heap.size + 1]? = some (.cells #[.string ⟨#[]⟩, .slice none 0 0, .slice none 0 0] 58 (0, 0)) := by subst hW1; exact blk_alloc hV1 _
  have hG2 : W1.heap[w1.heap.size]? = some (.cells #[.string s, .slice none 0 0, .slice none 0 0] 58 (0, 0)) := by subst hW1; exact heap_alloc_new _ _
  have hzW1 : W1.heap.size = w1.heap.size + 1 := by subst hW1; simp
  have hgW1 : w.grownBy W1 (some p) := by subst hW1; exact gr_alloc hg1' _
  have hrW1 : Rd W1 p r1 q1 := by subst hW1; exact rd_alloc hr1 _
  obtain ⟨m1, _⟩ := one_blk hM1
  have HM2 := Lib.hid hM2
  have HV2 := Lib.hid hV2
  have HG2 := Lib.hid hG2
  have Hg2 := Lib.hid hgW1
  have Hr2 := Lib.hid hrW1
  have HW1 := Lib.hid hW1.symm
  have A0 := Lib.hid a0
  have A1 := Lib.hid a1
  obtain ⟨m2, _⟩ := one_blk hM2
  have hmz : w.heap.size < w1.heap.size := by omega
  clear hM2 hV2 hG2 hgW1 hrW1 hW1 hg1 hr1 hM1 hV1 hg1' a0 a1 m0 HW
  go_wp2_with fail
  rw [HW1.out]
  refine text_any p r1 q1 _ Hr2.out _ (fun n r2 q2 hn b0 b1 w2 hg3 hr3 => ?_)
  have hz2 := hg3.size
  rw [hzW1] at hz2
  have hM3 := gr_blk hg3 HM2.out (by omega)
  have hV3 := gr_blk hg3 HV2.out (by omega)
  have hG3 := gr_blk hg3 HG2.out (by omega)
  obtain ⟨W3, cap, hcv, hbc, hzc, hcode⟩ := conv_text w2 n hn
  have hM3' := (hbc.block _ (blk_lt hM3)).trans hM3
  have hV3' := (hbc.block _ (blk_lt hV3)).trans hV3
  have hG3' := (hbc.block _ (blk_lt hG3)).trans hG3
  have hr3' := hr3.other hbc
  have hg3' := grown_trans hg3 (grown_of_below hbc (some p))
  obtain ⟨g0, g1, g2, y0, y1, y2⟩ := three_cells hG3'
  have hG3l : w1.heap.size < W3.heap.size := by omega
  obtain ⟨W2, hW2⟩ : ∃ W2, W2 = W3.setCell ⟨w1.heap.size, 1, none⟩ (.slice (some ⟨w2.heap.size, 0, none⟩) n.size cap) := ⟨_, rfl⟩
  have hM4 : W2.heap[w.heap.size]? = some (.cells #[.pointer (some ⟨p, 0, none⟩)] 159 (0, 0)) := by subst hW2; exact blk_other hM3' (by omega) _
  have hV4 : W2.heap[w.heap.size + 1]? = some (.cells #[.string ⟨#[]⟩, .slice none 0 0, .slice none 0 0] 58 (0, 0)) := by subst hW2; exact blk_other hV3' (by omega) _
  have hG4 : W2.heap[w1.heap.size]? = some (.cells #[.string s, .slice (some ⟨w2.heap.size, 0, none⟩) n.size cap, .slice none 0 0] 58 (0, 0)) := by subst hW2; exact (three_set hG3').2.1 _
  have hzW2 : W2.heap.size = w2.heap.size + 1 := by subst hW2; simp [World.setCell, hzc]
  have hgW2 : w.grownBy W2 (some p) := by subst hW2; exact gr_set (grown_trans Hg2.out hg3') _ _ (by simp; omega)
  have hrW2 : Rd W2 p r2 q2 := by subst hW2; exact rd_set hr3' _ _ (by simp; omega)
  have hcode2 : rpByte.SLF W2 w2.heap.size W2.heap.size n.data.toList (.slice (some ⟨w2.heap.size, 0, none⟩) n.size cap) := by subst hW2; exact (hcode.setCell _ (by simp; omega) _).more (Nat.le_refl _) (by simp [World.setCell])
  have HM4 := Lib.hid hM4
  have HV4 := Lib.hid hV4
  have HG4 := Lib.hid hG4
  have Hg4 := Lib.hid hgW2
  have Hr4 := Lib.hid hrW2
  have HW2 := Lib.hid hW2.symm
  have Hcode := Lib.hid hcode2
  have B0 : Hid (q2 = false → q1 = false ∧ textL r1 = some (n, r2)) := Lib.hid b0
  have B1 : Hid (q2 = true → q1 = true ∨ textL r1 = none) := Lib.hid b1
  have hlen2 : q2 = false → r2.length ≤ 100000 := fun hq => by
    obtain ⟨h1, h2⟩ := b0 hq
    obtain ⟨h3, h4⟩ := A0.out h1
    have := textL_short _ _ _ h2
    have := textL_short _ _ _ h4
    have := hlen h3
    omega
  have Hlen2 := Lib.hid hlen2
  obtain ⟨m4, _⟩ := one_blk hM4
  obtain ⟨m3, _⟩ := one_blk hM3'
  have Hm4 := Lib.hid m4
  clear hM4 hV4 hG4 hgW2 hrW2 hW2 hg3 hr3 hM3 hV3 hG3 hM3' hV3' hG3' hr3' hg3' hbc hcode hcode2 b0 b1 m1 m2 HW1 hlen2 m4
  go_wp2_with fail
  rw [HW2.out]
  refine listMend_calls p r2 q2 _ Hr4.out Hlen2.out w.heap.size Hm4.out (by omega) _ (fun xs r3 q3 c0 c1 w3 v hg5 hr5 hv => ?_)
  obtain ⟨A9, n9, rfl, _, _, hv⟩ := hv.cases_
  have hz3 := hg5.size
  rw [hzW2] at hz3 hv
  have hV5 := gr_blk hg5 HV4.out (by omega)
  have hG5 := gr_blk hg5 HG4.out (by omega)
  obtain ⟨e0, e1, e2, x0, x1, x2⟩ := three_cells hG5
  obtain ⟨f0, f1, f2, t0, t1, t2⟩ := three_cells hV5
  obtain ⟨l0, l1⟩ := three_read (A := textL) (B := textL) (C := listL mendL) (D := sectionL) (f := fun a b c => (⟨a, b.data.toList, c⟩ : Section)) (fun bs => rfl) A0.out A1.out B0.out B1.out c0 c1
  have hcd := (Hcode.out.keep (w' := w3) (fun k h1 h2 => hg5.block k (by omega) (by intro e; injection e with e; omega)))
  have Hcd := Lib.hid hcd
  have HV5 := Lib.hid hV5
  have Hr5 := Lib.hid hr5
  have Hg5 := Lib.hid (grown_trans Hg4.out hg5)
  have Hv := Lib.hid hv
  have Hfin := Lib.hid (fun w' v1 v2 hg hr => HR.out ⟨s, n.data.toList, xs⟩ r3 q3 l0 l1 w' v1 v2 hg hr)
  have hq1 : w1.heap.size < w3.heap.size := by omega
  have hq2 : w.heap.size + 1 < w3.heap.size := by omega
  clear hg5 hr5 hv hV5 hG5 c0 c1 l0 l1 hcd hcv m3 HW2 g0 g1 g2 y0 y1 y2
  go_wp2
  refine bodyPost_ret (v := .agg #[.string s, .slice (some ⟨w2.heap.size, 0, none⟩) n.size cap, .slice A9 xs.length n9]) (res_Section (T := 58) (by rfl) (by rfl) ?_) rfl ?_
  · exact (three_set ((three_set ((three_set (blk_other (c := w1.heap.size) (j := 2) HV5.out (by omega) _)).1 _)).2.1 _)).2.2 _
  · have hG := gr_set (gr_set (gr_set (gr_set Hg5.out ⟨w1.heap.size, 2, none⟩ (.slice A9 xs.length n9) (by simp; omega)) ⟨w.heap.size + 1, 0, none⟩ (.string s) (by simp)) ⟨w.heap.size + 1, 1, none⟩ (.slice (some ⟨w2.heap.size, 0, none⟩) n.size cap) (by simp)) ⟨w.heap.size + 1, 2, none⟩ (.slice A9 xs.length n9) (by simp)
    have hRd := rd_set (rd_set (rd_set (rd_set Hr5.out ⟨w1.heap.size, 2, none⟩ (.slice A9 xs.length n9) (by simp; omega)) ⟨w.heap.size + 1, 0, none⟩ (.string s) (by simp; omega)) ⟨w.heap.size + 1, 1, none⟩ (.slice (some ⟨w2.heap.size, 0, none⟩) n.size cap) (by simp; omega)) ⟨w.heap.size + 1, 2, none⟩ (.slice A9 xs.length n9) (by simp; omega)
    have hS := ((((Hv.out.setCell ⟨w1.heap.size, 2, none⟩ (by simp; omega) (.slice A9 xs.length n9)).setCell ⟨w.heap.size + 1, 0, none⟩ (by simp; omega) (.string s)).setCell ⟨w.heap.size + 1, 1, none⟩ (by simp; omega) (.slice (some ⟨w2.heap.size, 0, none⟩) n.size cap)).setCell ⟨w.heap.size + 1, 2, none⟩ (by simp; omega) (.slice A9 xs.length n9)).more (b' := w.heap.size) (by omega) (Nat.le_refl _)
    have hC := ((((Hcd.out.setCell ⟨w1.heap.size, 2, none⟩ (by simp; omega) (.slice A9 xs.length n9)).setCell ⟨w.heap.size + 1, 0, none⟩ (by simp; omega) (.string s)).setCell ⟨w.heap.size + 1, 1, none⟩ (by simp; omega) (.slice (some ⟨w2.heap.size, 0, none⟩) n.size cap)).setCell ⟨w.heap.size + 1, 2, none⟩ (by simp; omega) (.slice A9 xs.length n9)).more (b' := w.heap.size) (by omega) (Nat.le_refl _)
    exact Hfin.out _ _ _ hG hRd (hC.more (Nat.le_refl _) (by simp [World.setCell]; omega)) (hS.more (Nat.le_refl _) (by simp [World.setCell]))

set_option maxRecDepth 100000 in
set_option maxHeartbeats 4000000 in
theorem listGlobal_calls (p : Nat) (bs : List UInt8) (bad : Bool) (w : World) (h : Rd w p bs bad) (hlen : bad = false → bs.length ≤ 100000)  (R : Ending → World → Prop)
    (hR : ∀ (xs : List Global) (r : List UInt8) (q : Bool), (q = false → bad = false ∧ listL globalL bs = some (xs, r)) → (q = true → bad = true ∨ listL globalL bs = none) → ∀ w' v, w.grownBy w' (some p) → Rd w' p r q → rpGlobal.SLF w' w.heap.size w'.heap.size xs v → R (.returned v) w') :
    Calls Tryz.prog 75 #[.pointer (some ⟨p, 0, none⟩), .func (.func 76) #[.pointer (some ⟨p, 0, none⟩)] #[]] w R := by
  obtain ⟨iB, hi, zb0, zb1, zb2⟩ := info_parts info_Global
  have hpl := h.lt
  have HR := Lib.hid hR
  have Hrd := Lib.hid h
  clear hR h
  go_enter Tryz.func75, Tryz.ntmps75
  go_wp2_with fail
  refine many_any p bs bad _ Hrd.out _ (fun n0 r0 q0 hle hq0 hq1 w0 hg0 hr0 => ?_)
  have L0 : Hid (q0 = false → bad = false ∧ (timesL globalL n0 r0).map (fun y => (([] : List Global) ++ y.1, y.2)) = listL globalL bs ∧ n0 + 0 ≤ 100000 ∧ r0.length ≤ 100000) := Lib.hid fun hq => by
    obtain ⟨h1, h2⟩ := hq0 hq
    have h3 := manyL_short _ _ _ h2
    have h4 := hlen h1
    refine ⟨h1, ?_, by omega, by omega⟩
    unfold listL
    rw [h2]
    show _ = timesL globalL n0 r0
    cases timesL globalL n0 r0 <;> rfl
  have L1 : Hid (q0 = true → bad = true ∨ listL globalL bs = none) := Lib.hid fun hq => by
    rcases hq1 hq with h1 | h1
    · exact .inl h1
    · right
      unfold listL
      rw [h1]
      rfl
  have Hg0 := Lib.hid hg0
  have Hr0 := Lib.hid hr0
  clear hq0 hq1 hg0 hr0 hle
  go_wp2
  go_loopg [5, 6] n0 (fun gh out s6 wr => ∃ (n : Nat) (xs : List Global) (css : List (List Value)) (r : List UInt8) (q : Bool), gh = n ∧ s6 = .int .i64 (n : Int) ∧ Built rpGlobal w.heap.size 118 (fun b => b < w.heap.size) wr out xs css ∧ Rd wr p r q ∧ w.grownBy wr (some p) ∧
    (q = false → bad = false ∧ (timesL globalL n r).map (fun y => (xs ++ y.1, y.2)) = listL globalL bs ∧ n + xs.length ≤ 100000 ∧ r.length ≤ 100000) ∧ (q = true → bad = true ∨ listL globalL bs = none))
  case atStart => exact ⟨n0, [], [], r0, q0, rfl, rfl, Built.nil _ _ _ _ _ (fun _ h => h), Hr0.out, Hg0.out, L0.out, L1.out⟩
  case round =>
    obtain ⟨n, xs, css, r, q, hgh, rfl, hB, hrd, hgr, l0, l1⟩ := hrel
    have hpw := hrd.lt
    have hsz := hgr.size
    obtain ⟨vr, Tr, hblk, hsv⟩ := id hrd
    obtain ⟨A9, n9, rfl, _, _, _⟩ := hsv.cases_
    obtain ⟨c0, c1, z0, z1⟩ := cells_of_block hblk
    have HB := Lib.hid hB
    have HRd := Lib.hid hrd
    have Hgr := Lib.hid hgr
    have M0 := Lib.hid l0
    have M1 := Lib.hid l1
    have Hgh := Lib.hid hgh
    clear hB hrd hgr l0 l1 hblk hgh hsv
    have hexit : Hid ((q = true ∨ n = 0) → R (.returned u5) wr) := Lib.hid fun hx => by
      refine HR.out xs r q (fun hq => ?_) M1.out wr u5 Hgr.out HRd.out (HB.out.SLF (fun k hk => hk) (Nat.le_refl _) (Nat.le_refl _))
      obtain ⟨h1, h2, _, _⟩ := M0.out hq
      refine ⟨h1, ?_⟩
      rcases hx with hx | hx
      · rw [hq] at hx
        cases hx
      · subst hx
        rw [← h2]
        simp [timesL]
    cases q
    rotate_left
    · have hf := Lib.hid (hexit.out (.inl rfl))
      clear hexit
      by_cases hn : 0 < n
      · have i0 : (0 : Int) < (n : Int) := by omega
        go_wp2
        exact hf.out
      · have i0 : ¬ (0 : Int) < (n : Int) := by omega
        go_wp2
        exact hf.out
    · by_cases hn : n = 0
      · have hf := Lib.hid (hexit.out (.inr hn))
        have i0 : ¬ (0 : Int) < (n : Int) := by omega
        clear hexit
        go_wp2
        all_goals first | exact hf.out | (exfalso; omega)
      · have i0 : (0 : Int) < (n : Int) := by omega
        obtain ⟨m, rfl⟩ : ∃ m, n = m + 1 := ⟨n - 1, by omega⟩
        obtain ⟨hb, ht, hnl, hrl⟩ := M0.out rfl
        have Ht := Lib.hid ht
        have Hbb := Lib.hid hb
        obtain ⟨A5, n5, hu5⟩ : ∃ A c, u5 = .slice A xs.length c := own_slice HB.out.own
        subst hu5
        clear hexit hn ht hb
        go_wp2_with fail
        refine global_any p r false _ HRd.out (fun _ => hrl) _ (fun x r2 q2 h0 h1 w1 v hg1 hr1 hv => ?_)
        obtain ⟨A8, n8, rfl, _, _, hv⟩ := hv.cases_
        have hsz1 := hg1.size
        have hkp : ∀ k, k < wr.heap.size → ¬ k < w.heap.size → w1.heap[k]? = wr.heap[k]? := fun k hk hn => hg1.block k hk (by intro e; injection e with e; omega)
        have hB1 := (HB.out.keep hsz1 hkp).alloc (Obj.cells #[.string x.name, .int .i64 x.size, .slice A8 x.init.length n8] 118)
        have hA : Apart rpGlobal (fun b => b < w.heap.size) (w1.alloc (Obj.cells #[.string x.name, .int .i64 x.size, .slice A8 x.init.length n8] 118)) (.slice A5 xs.length n5) x [.string x.name, .int .i64 x.size, .slice A8 x.init.length n8] := by
          refine Apart.of_only (base := wr.heap.size) (rpGlobal_mk ((hv.below ((Below.refl _ _).alloc (Nat.le_refl _) _) (Nat.le_refl _)).more (Nat.le_refl _) (by simp))) (fun k hk => by omega) (fun g hg => (HB.out.own.lt g hg).2)
        have Hr1 := Lib.hid hr1
        have HB1 := Lib.hid hB1
        have HA := Lib.hid hA
        have hgw := Lib.hid (grown_trans Hgr.out hg1)
        have hW : Hid ((w1.alloc (Obj.cells #[.string x.name, .int .i64 x.size, .slice A8 x.init.length n8] 118)).ownsRow w.heap.size 118 3 (.slice A5 xs.length n5) xs.length css.flatten) := Lib.hid hB1.own
        have hN0 : Hid (q2 = false → bad = false ∧ (timesL globalL m r2).map (fun y => ((xs ++ [x]) ++ y.1, y.2)) = listL globalL bs ∧ m + (xs ++ [x]).length ≤ 100000 ∧ r2.length ≤ 100000) := Lib.hid fun hq => by
          have h2 := (h0 hq).2
          have h3 := globalL_short _ _ _ h2
          refine ⟨Hbb.out, ?_, by rw [List.length_append]; simp; omega, by omega⟩
          rw [← timesL_step h2]
          exact Ht.out
        have hN1 : Hid (q2 = true → bad = true ∨ listL globalL bs = none) := Lib.hid fun hq => by
          rcases h1 hq with h2 | h2
          · cases h2
          · right
            have := Ht.out
            rw [timesL_none h2] at this
            exact this.symm
        clear hg1 hr1 hB1 hA hkp h0 h1
        go_wp2_with (at_builtin; refine wpList_append_lies _ rfl _ _ 37 rfl w.heap.size 118 iB _ 3 48 Tryz.underlying37 hi zb0 zb1 zb2 rfl (by decide) (.slice A5 xs.length n5) xs.length css.flatten rfl hW.out ⟨w1.heap.size, 0, none⟩ 1 1 [.string x.name, .int .i64 x.size, .slice A8 x.init.length n8] rfl rfl ?_ ?_ (by decide) ?_ ?_ ?_ _ rfl ?_)
        any_goals (first | exact World.news_of_block (cs := #[.string x.name, .int .i64 x.size, .slice A8 x.init.length n8]) (t := 118) (fr := (0, 0)) (heap_alloc_new _ _) | (simp [Value.oneCell']; done) | (unfold maxLen; omega) | omega | (simp; done) | (simp; omega))
        intro gb cap w3 hown3 hgrow3 hat3 hlt3
        have hB3 := HB1.out.push hown3 rfl hgrow3 (by simpa using hat3) HA.out
        have hown : ∀ j, Value.ownBlock (.slice A5 xs.length n5) = some j → w.heap.size ≤ j := fun j hj => (HB.out.own.lt j hj).1
        have hgr3 := grown_row (grown_trans hgw.out (grown_of_below ((Below.refl _ _).alloc (Nat.le_refl _) (Obj.cells #[.string x.name, .int .i64 x.size, .slice A8 x.init.length n8] 118)) (some p))) hgrow3 hown
        have hr3 := Hr1.out.other ((Below.refl _ _).alloc (Nat.le_refl _) (Obj.cells #[.string x.name, .int .i64 x.size, .slice A8 x.init.length n8] 118))
        have hr4 : Rd w3 p r2 q2 := by
          have hl := hr3.lt
          obtain ⟨v8, T8, h8, h9⟩ := hr3
          refine ⟨v8, T8, (hgrow3.block p hl (fun e => by have := hown p e.symm; omega)).trans h8, h9.keep fun a ha => World.cell?_of_block (hgrow3.block _ (by omega) (fun e => by have := hown _ e.symm; omega))⟩
        have HB3 := Lib.hid hB3
        have Hgr3 := Lib.hid hgr3
        have Hr4 := Lib.hid hr4
        clear hown3 hgrow3 hat3 hB3 hown hgr3 hr3 hr4
        go_wp2
        go_roundg m
        case measure => have := Hgh.out; omega
        case rel => exact ⟨m, _, _, r2, q2, rfl, by go_num, HB3.out, Hr4.out, Hgr3.out, hN0.out, hN1.out⟩

set_option maxRecDepth 100000 in
set_option maxHeartbeats 4000000 in
theorem listSection_calls (p : Nat) (bs : List UInt8) (bad : Bool) (w : World) (h : Rd w p bs bad) (hlen : bad = false → bs.length ≤ 100000)  (R : Ending → World → Prop)
    (hR : ∀ (xs : List Section) (r : List UInt8) (q : Bool), (q = false → bad = false ∧ listL sectionL bs = some (xs, r)) → (q = true → bad = true ∨ listL sectionL bs = none) → ∀ w' v, w.grownBy w' (some p) → Rd w' p r q → rpSection.SLF w' w.heap.size w'.heap.size xs v → R (.returned v) w') :
    Calls Tryz.prog 77 #[.pointer (some ⟨p, 0, none⟩), .func (.func 78) #[.pointer (some ⟨p, 0, none⟩)] #[]] w R := by
  obtain ⟨iB, hi, zb0, zb1, zb2⟩ := info_parts info_Section
  have hpl := h.lt
  have HR := Lib.hid hR
  have Hrd := Lib.hid h
  clear hR h
  go_enter Tryz.func77, Tryz.ntmps77
  go_wp2_with fail
  refine many_any p bs bad _ Hrd.out _ (fun n0 r0 q0 hle hq0 hq1 w0 hg0 hr0 => ?_)
  have L0 : Hid (q0 = false → bad = false ∧ (timesL sectionL n0 r0).map (fun y => (([] : List Section) ++ y.1, y.2)) = listL sectionL bs ∧ n0 + 0 ≤ 100000 ∧ r0.length ≤ 100000) := Lib.hid fun hq => by
    obtain ⟨h1, h2⟩ := hq0 hq
    have h3 := manyL_short _ _ _ h2
    have h4 := hlen h1
    refine ⟨h1, ?_, by omega, by omega⟩
    unfold listL
    rw [h2]
    show _ = timesL sectionL n0 r0
    cases timesL sectionL n0 r0 <;> rfl
  have L1 : Hid (q0 = true → bad = true ∨ listL sectionL bs = none) := Lib.hid fun hq => by
    rcases hq1 hq with h1 | h1
    · exact .inl h1
    · right
      unfold listL
      rw [h1]
      rfl
  have Hg0 := Lib.hid hg0
  have Hr0 := Lib.hid hr0
  clear hq0 hq1 hg0 hr0 hle
  go_wp2
  go_loopg [5, 6] n0 (fun gh out s6 wr => ∃ (n : Nat) (xs : List Section) (css : List (List Value)) (r : List UInt8) (q : Bool), gh = n ∧ s6 = .int .i64 (n : Int) ∧ Built rpSection w.heap.size 58 (fun b => b < w.heap.size) wr out xs css ∧ Rd wr p r q ∧ w.grownBy wr (some p) ∧
    (q = false → bad = false ∧ (timesL sectionL n r).map (fun y => (xs ++ y.1, y.2)) = listL sectionL bs ∧ n + xs.length ≤ 100000 ∧ r.length ≤ 100000) ∧ (q = true → bad = true ∨ listL sectionL bs = none))
  case atStart => exact ⟨n0, [], [], r0, q0, rfl, rfl, Built.nil _ _ _ _ _ (fun _ h => h), Hr0.out, Hg0.out, L0.out, L1.out⟩
  case round =>
    obtain ⟨n, xs, css, r, q, hgh, rfl, hB, hrd, hgr, l0, l1⟩ := hrel
    have hpw := hrd.lt
    have hsz := hgr.size
    obtain ⟨vr, Tr, hblk, hsv⟩ := id hrd
    obtain ⟨A9, n9, rfl, _, _, _⟩ := hsv.cases_
    obtain ⟨c0, c1, z0, z1⟩ := cells_of_block hblk
    have HB := Lib.hid hB
    have HRd := Lib.hid hrd
    have Hgr := Lib.hid hgr
    have M0 := Lib.hid l0
    have M1 := Lib.hid l1
    have Hgh := Lib.hid hgh
    clear hB hrd hgr l0 l1 hblk hgh hsv
    have hexit : Hid ((q = true ∨ n = 0) → R (.returned u5) wr) := Lib.hid fun hx => by
      refine HR.out xs r q (fun hq => ?_) M1.out wr u5 Hgr.out HRd.out (HB.out.SLF (fun k hk => hk) (Nat.le_refl _) (Nat.le_refl _))
      obtain ⟨h1, h2, _, _⟩ := M0.out hq
      refine ⟨h1, ?_⟩
      rcases hx with hx | hx
      · rw [hq] at hx
        cases hx
      · subst hx
        rw [← h2]
        simp [timesL]
    cases q
    rotate_left
    · have hf := Lib.hid (hexit.out (.inl rfl))
      clear hexit
      by_cases hn : 0 < n
      · have i0 : (0 : Int) < (n : Int) := by omega
        go_wp2
        exact hf.out
      · have i0 : ¬ (0 : Int) < (n : Int) := by omega
        go_wp2
        exact hf.out
    · by_cases hn : n = 0
      · have hf := Lib.hid (hexit.out (.inr hn))
        have i0 : ¬ (0 : Int) < (n : Int) := by omega
        clear hexit
        go_wp2
        all_goals first | exact hf.out | (exfalso; omega)
      · have i0 : (0 : Int) < (n : Int) := by omega
        obtain ⟨m, rfl⟩ : ∃ m, n = m + 1 := ⟨n - 1, by omega⟩
        obtain ⟨hb, ht, hnl, hrl⟩ := M0.out rfl
        have Ht := Lib.hid ht
        have Hbb := Lib.hid hb
        obtain ⟨A5, n5, hu5⟩ : ∃ A c, u5 = .slice A xs.length c := own_slice HB.out.own
        subst hu5
        clear hexit hn ht hb
        go_wp2_with fail
        refine section_any p r false _ HRd.out (fun _ => hrl) _ (fun x r2 q2 h0 h1 w1 v1 v2 hg1 hr1 hv1 hv2 => ?_)
        obtain ⟨A8, n8, rfl, _, _, hv1⟩ := hv1.cases_
        obtain ⟨A7, n7, rfl, _, _, hv2⟩ := hv2.cases_
        have hsz1 := hg1.size
        have hkp : ∀ k, k < wr.heap.size → ¬ k < w.heap.size → w1.heap[k]? = wr.heap[k]? := fun k hk hn => hg1.block k hk (by intro e; injection e with e; omega)
        have hB1 := (HB.out.keep hsz1 hkp).alloc (Obj.cells #[.string x.name, .slice A8 x.code.length n8, .slice A7 x.mends.length n7] 58)
        have hA : Apart rpSection (fun b => b < w.heap.size) (w1.alloc (Obj.cells #[.string x.name, .slice A8 x.code.length n8, .slice A7 x.mends.length n7] 58)) (.slice A5 xs.length n5) x [.string x.name, .slice A8 x.code.length n8, .slice A7 x.mends.length n7] := by
          refine Apart.of_only (base := wr.heap.size) (rpSection_mk ((hv1.below ((Below.refl _ _).alloc (Nat.le_refl _) _) (Nat.le_refl _)).more (Nat.le_refl _) (by simp)) ((hv2.below ((Below.refl _ _).alloc (Nat.le_refl _) _) (Nat.le_refl _)).more (Nat.le_refl _) (by simp))) (fun k hk => by omega) (fun g hg => (HB.out.own.lt g hg).2)
        have Hr1 := Lib.hid hr1
        have HB1 := Lib.hid hB1
        have HA := Lib.hid hA
        have hgw := Lib.hid (grown_trans Hgr.out hg1)
        have hW : Hid ((w1.alloc (Obj.cells #[.string x.name, .slice A8 x.code.length n8, .slice A7 x.mends.length n7] 58)).ownsRow w.heap.size 58 3 (.slice A5 xs.length n5) xs.length css.flatten) := Lib.hid hB1.own
        have hN0 : Hid (q2 = false → bad = false ∧ (timesL sectionL m r2).map (fun y => ((xs ++ [x]) ++ y.1, y.2)) = listL sectionL bs ∧ m + (xs ++ [x]).length ≤ 100000 ∧ r2.length ≤ 100000) := Lib.hid fun hq => by
          have h2 := (h0 hq).2
          have h3 := sectionL_short _ _ _ h2
          refine ⟨Hbb.out, ?_, by rw [List.length_append]; simp; omega, by omega⟩
          rw [← timesL_step h2]
          exact Ht.out
        have hN1 : Hid (q2 = true → bad = true ∨ listL sectionL bs = none) := Lib.hid fun hq => by
          rcases h1 hq with h2 | h2
          · cases h2
          · right
            have := Ht.out
            rw [timesL_none h2] at this
            exact this.symm
        clear hg1 hr1 hB1 hA hkp h0 h1
        go_wp2_with (at_builtin; refine wpList_append_lies _ rfl _ _ 38 rfl w.heap.size 58 iB _ 3 64 Tryz.underlying38 hi zb0 zb1 zb2 rfl (by decide) (.slice A5 xs.length n5) xs.length css.flatten rfl hW.out ⟨w1.heap.size, 0, none⟩ 1 1 [.string x.name, .slice A8 x.code.length n8, .slice A7 x.mends.length n7] rfl rfl ?_ ?_ (by decide) ?_ ?_ ?_ _ rfl ?_)
        any_goals (first | exact World.news_of_block (cs := #[.string x.name, .slice A8 x.code.length n8, .slice A7 x.mends.length n7]) (t := 58) (fr := (0, 0)) (heap_alloc_new _ _) | (simp [Value.oneCell']; done) | (unfold maxLen; omega) | omega | (simp; done) | (simp; omega))
        intro gb cap w3 hown3 hgrow3 hat3 hlt3
        have hB3 := HB1.out.push hown3 rfl hgrow3 (by simpa using hat3) HA.out
        have hown : ∀ j, Value.ownBlock (.slice A5 xs.length n5) = some j → w.heap.size ≤ j := fun j hj => (HB.out.own.lt j hj).1
        have hgr3 := grown_row (grown_trans hgw.out (grown_of_below ((Below.refl _ _).alloc (Nat.le_refl _) (Obj.cells #[.string x.name, .slice A8 x.code.length n8, .slice A7 x.mends.length n7] 58)) (some p))) hgrow3 hown
        have hr3 := Hr1.out.other ((Below.refl _ _).alloc (Nat.le_refl _) (Obj.cells #[.string x.name, .slice A8 x.code.length n8, .slice A7 x.mends.length n7] 58))
        have hr4 : Rd w3 p r2 q2 := by
          have hl := hr3.lt
          obtain ⟨v8, T8, h8, h9⟩ := hr3
          refine ⟨v8, T8, (hgrow3.block p hl (fun e => by have := hown p e.symm; omega)).trans h8, h9.keep fun a ha => World.cell?_of_block (hgrow3.block _ (by omega) (fun e => by have := hown _ e.symm; omega))⟩
        have HB3 := Lib.hid hB3
        have Hgr3 := Lib.hid hgr3
        have Hr4 := Lib.hid hr4
        clear hown3 hgrow3 hat3 hB3 hown hgr3 hr3 hr4
        go_wp2
        go_roundg m
        case measure => have := Hgh.out; omega
        case rel => exact ⟨m, _, _, r2, q2, rfl, by go_num, HB3.out, Hr4.out, Hgr3.out, hN0.out, hN1.out⟩
end Go.Proofs.YtcakodemngchpaaGreatDoor

/- object.Loaded: an object out of its bytes. -/
namespace Go.Proofs.YtcakodemngchpaaGreatDoor
open Go.RowKit
set_option linter.unusedSimpArgs false
set_option linter.unusedVariables false

theorem or_byte (a b : Nat) (ha : a < 256) (hb : b < 256) : bits .or .i64 ((a : Int) * 256) (b : Int) = ((256 * a + b : Nat) : Int) := by
  have e0 : ((a : Int) * 256) = ((a * 256 : Nat) : Int) := by omega
  have e : bits .or .i64 ((a * 256 : Nat) : Int) (b : Int) = IntKind.i64.wrap ((BitVec.ofInt 64 ((a * 256 : Nat) : Int) ||| BitVec.ofInt 64 (b : Int)).toNat : Nat) := rfl
  rw [e0, e, BitVec.ofInt_natCast, BitVec.ofInt_natCast, BitVec.toNat_or, BitVec.toNat_ofNat, BitVec.toNat_ofNat, Nat.mod_eq_of_lt (show a * 256 < 2 ^ 64 by omega), Nat.mod_eq_of_lt (show b < 2 ^ 64 by omega)]
  have h := Nat.two_pow_add_eq_or_of_lt (i := 8) (b := b) (by simpa using hb) a
  rw [show a * 256 = 2 ^ 8 * a from by omega, ← h, IntKind.wrap_i64]
  omega
theorem byte_get_ {w : World} {B : Nat} {xs : List UInt8} {b off n c k : Nat} (h : rpByte.SL w B xs (.slice (some ⟨b, off, none⟩) n c)) (hk : k < xs.length) : w.cell? ⟨b, off + k, none⟩ = some (.int .u8 ((xs.getD k 0).toNat : Nat)) := by
  obtain ⟨b', o', hA, _, h1⟩ := h.byte_at hk
  injection hA with hA
  injection hA with e1 e2
  subst e1 e2
  rw [h1, List.getD_eq_getElem?_getD, List.getElem?_eq_getElem hk]
  rfl

theorem res_ObjB {fn : Func} {p t : Tmp} (h : fn.results = #[.cell p 40, .tmp t]) {tmps : Array Value} {b : Nat} {w : World} {x y v : Value} {T : TypeId} (hp : tmps.getD p undef = .pointer (some ⟨b, 0, none⟩)) (ht : tmps.getD t undef = v)
    (hc : w.heap[b]? = some (.cells #[x, y] T (0, 0))) : (results fn tmps).run Tryz.prog w = .ok (.tuple #[.agg #[x, y], v]) w := by
  obtain ⟨c0, c1⟩ := cells_blk hc
  rw [Array.getD_eq_getD_getElem?] at hp ht
  simp [results, h, hp, ht, go_sem, c0, c1]

theorem run_conv {P : Program} {ρ : Operand → Value} {o : Oper} {src dst : TypeId} {x : Operand} {u : Value} {w : World} (h : o.op = .convert src dst x) (hc : (convert src dst (ρ x)).run P w = .ok u w) : (execOp ρ o).run P w = .ok (.value u) w := by
  have e : ∀ m : Sem Value, m.run P w = .ok u w → (do pure (Next.value (← m)) : Sem Next).run P w = .ok (.value u) w := by
    intro m hm
    simp [go_sem, hm]
  unfold execOp
  rw [h]
  exact e _ hc
theorem quiet_conv {P : Program} {a : Act} {o : Oper} {K : Act → Prop} {W : World} {src dst : TypeId} {x : Operand} {v u : Value} (h : o.op = .convert src dst x) (hx : a.eval x = v) (hc : ∀ n, (convert src dst v).run P (W.drewN n) = .ok u (W.drewN n))
    (hk : K (a.put o.dst u)) : o.quiet P a (fun w' => ∃ n, w' = W.drewN n) K :=
  ⟨u, fun w hw => by
    obtain ⟨n, rfl⟩ := hw
    unfold Oper.quietAt
    rw [run_conv h (by rw [hx]; exact hc n)]
    exact ⟨rfl, rfl⟩, hk⟩

/-- A fresh list stays while only blocks beyond its own are written. -/
theorem Rp.SLF.keepB {α : Type} {r : Rp α} {w w' : World} {b B : Nat} {xs : List α} {v : Value} (h : r.SLF w b B xs v) (hk : ∀ k, b ≤ k → k < B → w'.heap[k]? = w.heap[k]?) : r.SLF w' b B xs v := Rp.SL.mono h fun p u hp hc => by
  obtain ⟨h1, h2⟩ := only_cell hc
  rw [only_cell_of _ _ _ h2]
  exact (World.cell?_of_block (hk _ (of_decide_eq_true h2) hp)).trans h1

set_option maxRecDepth 100000 in
set_option maxHeartbeats 4000000 in
theorem Loaded_calls (v : Value) (bs : List UInt8) (w : World) (h : rpByte.SL w w.heap.size bs v) (hlen : bs.length ≤ 100000) (R : Ending → World → Prop)
    (hsome : ∀ o, loadedL bs = some o → ∀ w' u1 u2, Below w.heap.size w w' → rpGlobal.SLF w' w.heap.size w'.heap.size o.globals u1 → rpSection.SLF w' w.heap.size w'.heap.size o.sections u2 → R (.returned (.tuple #[.agg #[u1, u2], .bool true])) w')
    (hnone : loadedL bs = none → ∀ w' A1 n1 c1 A2 n2 c2, Below w.heap.size w w' → R (.returned (.tuple #[.agg #[.slice A1 n1 c1, .slice A2 n2 c2], .bool false])) w') :
    Calls Tryz.prog 43 #[v] w R := by
  obtain ⟨A, c, rfl, hm, hcap, h⟩ := h.cases_
  have Hsome := Lib.hid hsome
  have Hnone := Lib.hid hnone
  have H := Lib.hid h
  clear hsome hnone h
  have hk2 : IntKind.i64.wrap ((bs.length : Int) - 2) = (bs.length : Int) - 2 := IntWalk.i64_in _ (by omega)
  by_cases h5 : bs.length < 5
  · have hno : loadedL bs = none := by
      unfold loadedL
      rw [if_neg (by unfold headOk; omega)]
    have hf := Lib.hid (Hnone.out hno)
    have i0 : (bs.length : Int) - 2 < 3 := by omega
    clear hno
    go_enter Tryz.func43, Tryz.ntmps43
    go_wp2
    go_quiet (fail)
    go_wp2
    refine bodyPost_ret (v := .tuple #[.agg #[.slice none 0 0, .slice none 0 0], .bool false]) (res_ObjB (T := 40) (by rfl) (by rfl) (by rfl) ?_) rfl ?_
    · exact blk_set1 (blk_set0 (blk_drewN (heap_alloc_new _ _) _) _) _
    · refine hf.out _ _ _ _ _ _ _ ?_
      exact bl0
  · obtain ⟨K, hK⟩ : ∃ K, bs.length = K + 2 := ⟨bs.length - 2, by omega⟩
    obtain ⟨b, off, rfl, hb, hcell0⟩ := H.out.byte_at (k := 0) (by omega)
    clear hcell0
    have HA : Hid (∀ W, Below w.heap.size w W → rpByte.SL W W.heap.size bs (.slice (some ⟨b, off, none⟩) bs.length c)) := Lib.hid fun W h => H.out.up h h.size
    obtain ⟨wa, hwa⟩ : ∃ wa, wa = w.alloc (Obj.cells #[.slice none 0 0, .slice none 0 0] 40) := ⟨_, rfl⟩
    have hbwa : Below w.heap.size w wa := by subst hwa; exact bl0
    have hQ : wa.heap[w.heap.size]? = some (.cells #[.slice none 0 0, .slice none 0 0] 40 (0, 0)) := by subst hwa; exact heap_alloc_new _ _
    have hza : wa.heap.size = w.heap.size + 1 := by subst hwa; simp
    have HQ := Lib.hid hQ
    obtain ⟨q0, q1, z0, z1⟩ := cells_of_block hQ
    have hwz : w.heap.size < wa.heap.size := by omega
    have HW := Lib.hid hwa.symm
    have Hbwa := Lib.hid hbwa
    have HK := Lib.hid hK
    have i0 : ¬ ((bs.length : Int) - 2) < 3 := by omega
    have cb0 : decide (((bs.length : Int) - 2) < 3) = false := decide_eq_false i0
    have i1 : (3 : Int) ≤ (c : Int) := by omega
    have i2 : ((bs.length : Int) - 2) < (bs.length : Int) := by omega
    have i3 : ((bs.length : Int) - 2) + 1 < (bs.length : Int) := by omega
    have i3' : ((bs.length : Int) - 1) < (bs.length : Int) := by omega
    have i4 : (0 : Int) ≤ ((bs.length : Int) - 2) := by omega
    have i4' : (0 : Int) ≤ ((bs.length : Int) - 1) := by omega
    have i5 : ((bs.length : Int) - 2) ≤ (c : Int) := by omega
    have i6 : (0 : Int) ≤ ((bs.length : Int) - 2) + 1 := by omega
    have i7 : ((bs.length : Int) - 2).toNat = K := by omega
    have i8 : (((bs.length : Int) - 2) + 1).toNat = K + 1 := by omega
    have i8' : ((bs.length : Int) - 1).toNat = K + 1 := by omega
    have hk4 : IntKind.i64.wrap (((bs.length : Int) - 2) + 1) = ((bs.length : Int) - 2) + 1 := IntWalk.i64_in _ (by omega)
    have HCV : Hid (∀ n, (convert 25 9 (.slice (some ⟨b, off, none⟩) 3 c)).run Tryz.prog (wa.drewN n) = .ok (.string (strL (bs.take 3))) (wa.drewN n)) := Lib.hid fun n => conv_bytes (P := Tryz.prog) Tryz.underlying25 Tryz.underlying5 Tryz.underlying9 ((HA.out _ (below_drewN hbwa n)).take_ (k := 3) (by omega))
    have HSS : Hid (∀ W, Below w.heap.size w W → (fun W => W.cell? ⟨b, off + K, none⟩ = some (.int .u8 ((bs.getD K 0).toNat : Nat)) ∧ W.cell? ⟨b, off + (K + 1), none⟩ = some (.int .u8 ((bs.getD (K + 1) 0).toNat : Nat)) ∧ (convert 25 9 (.slice (some ⟨b, off, none⟩) 3 c)).run Tryz.prog W = .ok (.string (strL (bs.take 3))) W) W) := Lib.hid fun W h => ⟨byte_get_ (HA.out _ h) (k := K) (by omega), byte_get_ (HA.out _ h) (k := K + 1) (by omega), conv_bytes (P := Tryz.prog) Tryz.underlying25 Tryz.underlying5 Tryz.underlying9 ((HA.out _ h).take_ (k := 3) (by omega))⟩
    have hS0 := HSS.out wa hbwa
    have hS1 := HSS.out wa.drew hbwa.drew
    have hx0 := (bs.getD K 0).toNat_lt
    have hx1 := (bs.getD (K + 1) 0).toNat_lt
    by_cases hhd : bs.take 3 = [79, 66, 74]
    rotate_left
    · have hno : loadedL bs = none := by
        unfold loadedL
        rw [if_neg (by unfold headOk; intro h; exact hhd h.2.1)]
      have hf := Lib.hid (Hnone.out hno)
      have htl : ((strL (bs.take 3)).toList == [79, 66, 74]) = false := by
        rw [ByteArray.toList_eq]
        simp [strL, hhd]
      clear hno hhd hQ hwa hbwa hK
      go_enter Tryz.func43, Tryz.ntmps43
      go_wp2
      rw [HW.out]
      refine wp_region_quiet_lit (by kernel_rfl) (by kernel_rfl) ?_
      iterate 5 go_big_quiet_step (fail)
      go_big_quiet_want
      refine quiet_conv (v := .slice (some ⟨b, off, none⟩) 3 c) rfl rfl HCV.out ?_
      simp only [Act.put, List.setIfInBounds_toArray, List.set_cons_succ, List.set_cons_zero]
      go_big_quiet_on
      repeat (go_big_quiet_step (fail))
      refine wpQuiet_nil ?_
      intro _ hw'
      obtain ⟨nq, hw''⟩ := hw'
      subst hw''
      go_wp2
      refine bodyPost_ret (v := .tuple #[.agg #[.slice none 0 0, .slice none 0 0], .bool false]) (res_ObjB (T := 40) (by rfl) (by rfl) (by rfl) ?_) rfl ?_
      · exact blk_set1 (blk_set0 (blk_drewN HQ.out _) _) _
      · refine hf.out _ _ _ _ _ _ _ ?_
        have hb := Hbwa.out
        exact bl0
    · have htl : ((strL (bs.take 3)).toList == [79, 66, 74]) = true := by
        rw [ByteArray.toList_eq]
        simp [strL, hhd]
      have hsl := sumL_lt (bs.take K)
      have hor := or_byte _ _ hx0 hx1
      generalize hxx : (bs.getD K 0).toNat = x at *
      generalize hyy : (bs.getD (K + 1) 0).toNat = y at *
      have Hxx := Lib.hid hxx
      have Hyy := Lib.hid hyy
      have j0 : (0 : Int) ≤ (x : Int) := by omega
      have j1 : (x : Int) < 256 := by omega
      have j2 : (0 : Int) ≤ (y : Int) := by omega
      have j3 : (y : Int) < 256 := by omega
      have HS : Hid (∀ W, Below w.heap.size w W → Calls Tryz.prog 33 #[.slice (some ⟨b, off, none⟩) K c] W fun e w' => e = .returned (.int .i64 (sumL (bs.take K) : Nat)) ∧ w' = W) := Lib.hid fun W h => Sum_calls _ (bs.take K) W ((HA.out W h).take_ (by omega)) _ ⟨rfl, rfl⟩
      by_cases hsm : sumL (bs.take K) = 256 * x + y
      rotate_left
      · have hno : loadedL bs = none := by
          unfold loadedL
          rw [if_neg (by
            unfold headOk
            rw [hK, show K + 2 - 2 = K from rfl, show K + 2 - 1 = K + 1 from rfl, hxx, hyy]
            exact fun h => hsm h.2.2)]
        have hf := Lib.hid (Hnone.out hno)
        have hne : ((sumL (bs.take K) : Int) != ((256 * x + y : Nat) : Int)) = true := by simp; omega
        clear hno hhd hQ hwa hbwa hK hsm hxx hyy
        generalize sumL (bs.take K) = sm at *
        go_enter Tryz.func43, Tryz.ntmps43
        go_wp2
        rw [HW.out]
        refine wp_region_quiet_lit (by kernel_rfl) (by kernel_rfl) ?_
        iterate 5 go_big_quiet_step (fail)
        go_big_quiet_want
        refine quiet_conv (v := .slice (some ⟨b, off, none⟩) 3 c) rfl rfl HCV.out ?_
        simp only [Act.put, List.setIfInBounds_toArray, List.set_cons_succ, List.set_cons_zero]
        go_big_quiet_on
        repeat (go_big_quiet_step ((go_at_call 33; exact Calls.quiet_of_same (HS.out _ (below_drewN Hbwa.out _)))))
        refine wpQuiet_nil ?_
        intro _ hw'
        obtain ⟨nq, hw''⟩ := hw'
        subst hw''
        go_wp2
        refine bodyPost_ret (v := .tuple #[.agg #[.slice none 0 0, .slice none 0 0], .bool false]) (res_ObjB (T := 40) (by rfl) (by rfl) (by rfl) ?_) rfl ?_
        · exact blk_set1 (blk_set0 (blk_drewN HQ.out _) _) _
        · refine hf.out _ _ _ _ _ _ _ ?_
          have hb := Hbwa.out
          exact bl0
      · have hne : ((sumL (bs.take K) : Int) != ((256 * x + y : Nat) : Int)) = false := by simp; omega
        have HLd : Hid (loadedL bs = objectL ((bs.take K).drop 3)) := Lib.hid (by
          unfold loadedL
          rw [if_pos, hK, show K + 2 - 2 = K from rfl]
          unfold headOk
          rw [hK, show K + 2 - 2 = K from rfl, show K + 2 - 1 = K + 1 from rfl, hxx, hyy]
          exact ⟨by omega, hhd, hsm⟩)
        clear hhd hQ hwa hbwa hK hsm hxx hyy
        generalize hsml : sumL (bs.take K) = sm at *
        clear hsml
        go_enter Tryz.func43, Tryz.ntmps43
        go_wp2
        rw [HW.out]
        refine wp_region_quiet_lit (by kernel_rfl) (by kernel_rfl) ?_
        iterate 5 go_big_quiet_step (fail)
        go_big_quiet_want
        refine quiet_conv (v := .slice (some ⟨b, off, none⟩) 3 c) rfl rfl HCV.out ?_
        simp only [Act.put, List.setIfInBounds_toArray, List.set_cons_succ, List.set_cons_zero]
        go_big_quiet_on
        repeat (go_big_quiet_step ((go_at_call 33; exact Calls.quiet_of_same (HS.out _ (below_drewN Hbwa.out _)))))
        refine wpQuiet_nil ?_
        intro _ hw'
        obtain ⟨nq, hw''⟩ := hw'
        subst hw''
        go_wp2_with fail
        obtain ⟨L, hL⟩ : ∃ L, L = (bs.take K).drop 3 := ⟨_, rfl⟩
        have hLl : L.length ≤ 100000 := by subst hL; rw [List.length_drop, List.length_take]; omega
        obtain ⟨wr, hwr⟩ : ∃ wr, wr = (wa.drewN nq).alloc (Obj.cells #[.slice (some ⟨b, off + 3, none⟩) (K - 3) (c - 3), .bool false] 160) := ⟨_, rfl⟩
        rw [← hwr]
        have hzr : wr.heap.size = w.heap.size + 2 := by subst hwr; simp; omega
        have hbr : Below w.heap.size w wr := by
          subst hwr
          have hb := Hbwa.out
          exact bl0
        have hQr : wr.heap[w.heap.size]? = some (.cells #[.slice none 0 0, .slice none 0 0] 40 (0, 0)) := by subst hwr; exact blk_alloc (blk_drewN HQ.out _) _
        have hRr : Rd wr (w.heap.size + 1) L false := by
          refine ⟨_, 160, by subst hwr; have := heap_alloc_new (wa.drewN nq) (Obj.cells #[.slice (some ⟨b, off + 3, none⟩) (K - 3) (c - 3), .bool false] 160); rw [show (wa.drewN nq).heap.size = w.heap.size + 1 from hza] at this; exact this, ?_⟩
          have hk := HK.out
          have h1 := H.out.up hbr (show w.heap.size ≤ w.heap.size + 1 by omega)
          have h2 := h1.take_ (k := K) (by omega)
          have h3 := h2.drop_ (k := 3) (by rw [List.length_take]; omega) (off + 3) (fun _ => rfl)
          rw [hL]
          exact h3
        have HQr := Lib.hid hQr
        have HRr := Lib.hid hRr
        have Hbr := Lib.hid hbr
        have HLo : Hid (loadedL bs = objectL L) := Lib.hid (by rw [hL]; exact HLd.out)
        clear hQr hRr hbr hwr hL hwz q0 q1 z0 z1
        refine listGlobal_calls (w.heap.size + 1) L false _ HRr.out (fun _ => hLl) _ (fun gs r1 q1 a0 a1 w1 v1 hg1 hr1 hs1 => ?_)
        obtain ⟨B1, m1, rfl, _, _, hs1⟩ := hs1.cases_
        have hz1 := hg1.size
        have hQ1 := gr_blk hg1 HQr.out (by omega)
        obtain ⟨W1, hW1⟩ : ∃ W1, W1 = w1.alloc (Obj.cells #[.slice B1 gs.length m1, .slice none 0 0] 40) := ⟨_, rfl⟩
        have hzW1 : W1.heap.size = w1.heap.size + 1 := by subst hW1; simp
        have hQ2 : W1.heap[w.heap.size]? = some (.cells #[.slice none 0 0, .slice none 0 0] 40 (0, 0)) := by subst hW1; exact blk_alloc hQ1 _
        have hO2 : W1.heap[w1.heap.size]? = some (.cells #[.slice B1 gs.length m1, .slice none 0 0] 40 (0, 0)) := by subst hW1; exact heap_alloc_new _ _
        have hr2 : Rd W1 (w.heap.size + 1) r1 q1 := by subst hW1; exact rd_alloc hr1 _
        have hs2 : rpGlobal.SLF W1 (w.heap.size + 2) w1.heap.size gs (.slice B1 gs.length m1) := by
          subst hW1
          exact ((hs1.keepB (w' := w1.alloc _) fun k _ hk => Below.heap_alloc _ _ _ hk).more (by omega) (Nat.le_refl _))
        have hb1 : Below w.heap.size w W1 := by
          subst hW1
          have hb := Hbr.out
          have hb' := grown_below hg1 (B := w.heap.size) (by omega) (by omega)
          exact (hb.trans hb').alloc (by omega) _
        have A0 := Lib.hid a0
        have A1 := Lib.hid a1
        have HQ2 := Lib.hid hQ2
        have HO2 := Lib.hid hO2
        have Hr2 := Lib.hid hr2
        have Hs2 := Lib.hid hs2
        have Hb1 := Lib.hid hb1
        have HW1 := Lib.hid hW1.symm
        clear a0 a1 hg1 hr1 hs1 hQ1 hQ2 hO2 hr2 hs2 hb1 hW1
        go_wp2_with fail
        rw [HW1.out]
        refine listSection_calls (w.heap.size + 1) r1 q1 _ Hr2.out (fun hq => by
          have := listL_short globalL_short _ _ _ (A0.out hq).2
          omega) _ (fun ss r2 q2 b0 b1 w2 v2 hg2 hr2 hs3 => ?_)
        obtain ⟨B2, m2, rfl, _, _, hs3⟩ := hs3.cases_
        have hz2 := hg2.size
        have hQ3 := gr_blk hg2 HQ2.out (by omega)
        have hO3 := gr_blk hg2 HO2.out (by omega)
        have hb2 : Below w.heap.size w w2 := Hb1.out.trans (grown_below hg2 (by omega) (by omega))
        have hs4 : rpGlobal.SLF w2 (w.heap.size + 2) w1.heap.size gs (.slice B1 gs.length m1) := Hs2.out.keepB fun k hk hk2 => hg2.block k (by omega) (by intro e; injection e with e; omega)
        obtain ⟨q0, q1', z0, z1⟩ := cells_of_block hQ3
        obtain ⟨o0, o1, y0, y1⟩ := cells_of_block hO3
        obtain ⟨vr, Tr, hbr2, hsr2⟩ := id hr2
        obtain ⟨A9, n9, rfl, _, _, _⟩ := hsr2.cases_
        obtain ⟨e0, e1, x0, x1⟩ := cells_of_block hbr2
        have HQ3 := Lib.hid hQ3
        have Hb2 := Lib.hid hb2
        have Hs3 := Lib.hid hs3
        have Hs4 := Lib.hid hs4
        have B0 := Lib.hid b0
        have B1' := Lib.hid b1
        have hne1 : w.heap.size + 1 < w1.heap.size := by omega
        have hne2 : w1.heap.size < w2.heap.size := by omega
        clear hg2 hr2 hQ3 hO3 hb2 hs3 hs4 b0 b1 hbr2 hsr2
        have hObj : q2 = true ∨ r2 ≠ [] → loadedL bs = none := fun hx => by
          rw [HLo.out]
          unfold objectL
          cases q1 with
          | true =>
            rcases A1.out rfl with h | h
            · cases h
            · rw [h]
              rfl
          | false =>
            rw [(A0.out rfl).2]
            simp only [Option.bind_some]
            cases q2 with
            | true =>
              rcases B1'.out rfl with h | h
              · cases h
              · rw [h]
                rfl
            | false =>
              rw [(B0.out rfl).2]
              simp only [Option.bind_some]
              rw [if_neg (by rcases hx with hx | hx; cases hx; exact hx)]
        have HObj := Lib.hid hObj
        clear hObj
        cases q2
        · by_cases hr0 : r2 = []
          · subst hr0
            have hyes : loadedL bs = some ⟨gs, ss⟩ := by
              obtain ⟨h1, h2⟩ := B0.out rfl
              obtain ⟨_, h3⟩ := A0.out h1
              rw [HLo.out]
              unfold objectL
              rw [h3]
              simp only [Option.bind_some]
              rw [h2]
              rfl
            have hf := Lib.hid (Hsome.out _ hyes)
            clear hyes HObj
            simp only [List.length_nil] at *
            go_wp2
            go_region
            all_goals
              go_wp2
              refine bodyPost_ret (v := .tuple #[.agg #[.slice B1 gs.length m1, .slice B2 ss.length m2], .bool true]) (res_ObjB (T := 40) (by rfl) (by rfl) (by rfl) ?_) rfl ?_
              · exact (blkp HQ3.out)
              · refine hf.out _ _ _ ?_ ?_ ?_
                · have hb := Hb2.out
                  exact bl0
                · refine (Hs4.out.keepB fun k hk1 hk2 => ?_).more (by omega) (by simp [World.setCell]; omega)
                  obtain ⟨X, hX⟩ : ∃ X, w2.heap[k]? = some X := ⟨_, Array.getElem?_eq_getElem (by omega)⟩
                  rw [hX]
                  exact (blkp hX)
                · refine (Hs3.out.keepB fun k hk1 hk2 => ?_).more (by omega) (by simp [World.setCell])
                  obtain ⟨X, hX⟩ : ∃ X, w2.heap[k]? = some X := ⟨_, Array.getElem?_eq_getElem (by omega)⟩
                  rw [hX]
                  exact (blkp hX)
          · have hf := Lib.hid (Hnone.out (HObj.out (.inr hr0)))
            have hpos : ((r2.length : Int) == 0) = false := by have := List.length_pos_iff.2 hr0; simp; omega
            clear HObj hr0
            go_wp2
            go_region
            all_goals
              go_wp2
              refine bodyPost_ret (v := .tuple #[.agg #[.slice B1 gs.length m1, .slice B2 ss.length m2], .bool false]) (res_ObjB (T := 40) (by rfl) (by rfl) (by rfl) ?_) rfl ?_
              · exact (blkp HQ3.out)
              · refine hf.out _ _ _ _ _ _ _ ?_
                have hb := Hb2.out
                exact bl0
        · have hf := Lib.hid (Hnone.out (HObj.out (.inl rfl)))
          clear HObj
          go_wp2
          go_region
          all_goals
            go_wp2
            refine bodyPost_ret (v := .tuple #[.agg #[.slice B1 gs.length m1, .slice B2 ss.length m2], .bool false]) (res_ObjB (T := 40) (by rfl) (by rfl) (by rfl) ?_) rfl ?_
            · exact (blkp HQ3.out)
            · refine hf.out _ _ _ _ _ _ _ ?_
              have hb := Hb2.out
              exact bl0
end Go.Proofs.YtcakodemngchpaaGreatDoor
