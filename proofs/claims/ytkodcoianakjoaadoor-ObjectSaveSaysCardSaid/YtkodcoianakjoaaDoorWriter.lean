/- The writer of bytes: numbers, texts; sums of bytes; numbers folded. -/
import Derived.Test.YtkodcoianakjoaaDoorLib
import Derived.Test.YtkodcoianakjoaaDoorRows
import Derived.IntWalk
import Derived.Deep.LoopGhost
import Derived.Outline
import Derived.Test.YtkodcoianakjoaaDoorNumB
namespace Go.Proofs.YtkodcoianakjoaaDoor
open Go.RowKit
set_option linter.unusedSimpArgs false
set_option linter.unusedVariables false

theorem one_blk {w : World} {p : Nat} {u : Value} {T : TypeId} (h : w.heap[p]? = some (.cells #[u] T (0, 0))) : w.cell? ⟨p, 0, none⟩ = some u ∧ w.frozen? ⟨p, 0, none⟩ = false := by
  constructor <;> simp [World.cell?, World.frozen?, h]
theorem one_set {w : World} {p : Nat} {u : Value} {T : TypeId} (h : w.heap[p]? = some (.cells #[u] T (0, 0))) (x : Value) : (w.setCell ⟨p, 0, none⟩ x).heap[p]? = some (.cells #[x] T (0, 0)) := by
  rw [block_set h]
  rfl

theorem Came.ne {w : World} {v v' : Value} {P : Nat} (h : Came w v v') (hv : v.ownBlock ≠ some P) (hP : P < w.heap.size) : v'.ownBlock ≠ some P := fun e => by
  rcases h P e with h1 | h1
  · exact hv h1
  · omega

set_option maxRecDepth 100000 in
set_option maxHeartbeats 4000000 in
theorem wNumber_calls (P T : Nat) (v : Value) (bs : List UInt8) (n base : Nat) (w : World) (hP : w.heap[P]? = some (.cells #[v] T (0, 0))) (hB : Buf w base v bs) (hne : v.ownBlock ≠ some P) (hPl : P < w.heap.size) (hbase : base ≤ w.heap.size) (hn : n < 9223372036854775808) (hlen : bs.length ≤ 1099511627776) (R : Ending → World → Prop)
    (hR : ∀ w' v', w'.heap[P]? = some (.cells #[v'] T (0, 0)) → Buf w' base v' (bs ++ numB n) → Grew (fun k => k = P ∨ v.ownBlock = some k) w w' → Came w v v' → R (.returned (.tuple #[])) w') :
    Calls Tryd.prog 55 #[.pointer (some ⟨P, 0, none⟩), .int .i64 (n : Int)] w R := by
  obtain ⟨A, c, rfl⟩ := hB.slice
  have i0 : (0 : Int) ≤ (n : Int) := by omega
  have i1 : (n : Int) ≤ 9223372036854775807 := by omega
  obtain ⟨c0, z0⟩ := one_blk hP
  have Hne := Lib.hid hne
  have HR := Lib.hid hR
  have HP := Lib.hid hP
  have HB := Lib.hid hB
  clear hR hP hB hne
  go_enter Tryd.func55, Tryd.ntmps55
  go_wp2_with fail
  refine bNumber_calls _ bs n base _ HB.out (by omega) hlen hbase _ (fun w1 v1 hg1 hb1 hc1 => ?_)
  have hP1 : w1.heap[P]? = some (.cells #[.slice A bs.length c] T (0, 0)) := (hg1.block _ hPl (fun e => Hne.out e)).trans HP.out
  have hn1 : v1.ownBlock ≠ some P := hc1.ne Hne.out hPl
  obtain ⟨d0, y0⟩ := one_blk hP1
  obtain ⟨A1, c1, rfl⟩ := hb1.slice
  have hfin : Hid (R (.returned (.tuple #[])) (w1.setCell ⟨P, 0, none⟩ (.slice A1 (bs ++ numB n).length c1))) := Lib.hid (HR.out _ _ (one_set hP1 _)
    (hb1.grew (Grew.of_grown (grown_setCell w1 ⟨P, 0, none⟩ _)) (fun k hk e => hn1 (hk.trans e.symm)))
    ((hg1.more (fun j _ e => Or.inr e)).trans (Grew.of_grown (grown_setCell w1 ⟨P, 0, none⟩ _)) (fun j _ e => .inl (Option.some.inj e).symm)) hc1)
  rw [List.length_append] at hfin
  have hg1z := hg1.size
  clear hg1 hb1 hc1 hP1 c0 z0 hn1
  go_wp2
  go_end0
  exact hfin.out

set_option maxRecDepth 100000 in
set_option maxHeartbeats 4000000 in
theorem wText_calls (P T : Nat) (v : Value) (bs : List UInt8) (s : ByteArray) (base : Nat) (w : World) (hP : w.heap[P]? = some (.cells #[v] T (0, 0))) (hB : Buf w base v bs) (hne : v.ownBlock ≠ some P) (hPl : P < w.heap.size) (hbase : base ≤ w.heap.size) (hs : s.size ≤ 1099511627776) (hlen : bs.length ≤ 1099511627776) (R : Ending → World → Prop)
    (hR : ∀ w' v', w'.heap[P]? = some (.cells #[v'] T (0, 0)) → Buf w' base v' (bs ++ textB s) → Grew (fun k => k = P ∨ v.ownBlock = some k) w w' → Came w v v' → R (.returned (.tuple #[])) w') :
    Calls Tryd.prog 56 #[.pointer (some ⟨P, 0, none⟩), .string s] w R := by
  have i1 : (s.size : Int) ≤ 1099511627776 := by omega
  have HR := Lib.hid hR
  clear hR
  go_enter Tryd.func56, Tryd.ntmps56
  go_wp2_with fail
  refine wNumber_calls P T v bs s.size base _ hP hB hne hPl hbase (by omega) hlen _ (fun w1 v1 hP1 hb1 hg1 hc1 => ?_)
  have hz := hg1.size
  have hl := numB_len s.size
  obtain ⟨c0, z0⟩ := one_blk hP1
  have hPl1 : P < w1.heap.size := by omega
  have hn1 := hc1.ne hne hPl
  obtain ⟨A1, c1, rfl⟩ := hb1.slice
  have Hn1 := Lib.hid hn1
  have HP1 := Lib.hid hP1
  have HB1 := Lib.hid hb1
  have Hg1 := Lib.hid hg1
  have Hc1 := Lib.hid hc1
  have hcl : (bs ++ numB s.size).length ≤ 1099511627786 := by rw [List.length_append]; omega
  have htb : bs ++ textB s = (bs ++ numB s.size) ++ s.data.toList := by unfold textB; rw [List.append_assoc]
  have Htb := Lib.hid htb
  generalize bs ++ numB s.size = cur at *
  clear hP1 hb1 hg1 hc1 htb hl hn1 hne
  go_wp2_with (at_builtin; refine wpList_app_str _ rfl _ _ _ rfl Tryd.underlying84 rfl HB1.out rfl (by omega) (by omega) ?_)
  intro v2 w2 hb2 hg2 hc2
  obtain ⟨A2, c2, rfl⟩ := hb2.slice
  have hP2 : w2.heap[P]? = some (.cells #[.slice A1 cur.length c1] T (0, 0)) := (hg2.block _ hPl1 (fun e => Hn1.out e)).trans HP1.out
  have hn2 := hc2.ne Hn1.out hPl1
  obtain ⟨d0, y0⟩ := one_blk hP2
  have hfin : Hid (R (.returned (.tuple #[])) (w2.setCell ⟨P, 0, none⟩ (.slice A2 (cur ++ s.data.toList).length c2))) := Lib.hid (HR.out _ _ (one_set hP2 _)
    (by
      rw [Htb.out]
      exact hb2.grew (Grew.of_grown (grown_setCell w2 ⟨P, 0, none⟩ _)) (fun k hk e => hn2 (hk.trans e.symm)))
    ((Hg1.out.trans hg2 (fun j hj e => by
      rcases Hc1.out j e with h | h
      · exact .inr h
      · omega)).trans (Grew.of_grown (grown_setCell w2 ⟨P, 0, none⟩ _)) (fun j _ e => .inl (Option.some.inj e).symm)) (Hc1.out.trans hc2 hz))
  rw [List.length_append] at hfin
  have hzz := hg2.size
  clear hg2 hb2 hc2 hP2 c0 z0 hn2
  go_wp2
  go_end0
  first | exact hfin.out | simpa using hfin.out

/-- A sum of bytes. -/
def sumFrom (n : Nat) : List UInt8 → Nat
  | [] => n
  | b :: bs => sumFrom ((31 * n + b.toNat + 1) % 65521) bs
def sumL (bs : List UInt8) : Nat := sumFrom 0 bs
theorem sumFrom_lt : ∀ (bs : List UInt8) (n : Nat), n < 65521 → sumFrom n bs < 65521
  | [], n, h => h
  | b :: bs, n, h => by rw [sumFrom]; exact sumFrom_lt bs _ (Nat.mod_lt _ (by decide))
theorem sumL_lt (bs : List UInt8) : sumL bs < 65521 := sumFrom_lt bs 0 (by decide)
theorem sumFrom_take {bs : List UInt8} {k n : Nat} (h : k < bs.length) : sumFrom n (bs.take (k + 1)) = (31 * sumFrom n (bs.take k) + bs[k].toNat + 1) % 65521 := by
  induction bs generalizing k n with
  | nil => simp at h
  | cons b bs ih =>
    cases k with
    | zero => simp [sumFrom]
    | succ k =>
      rw [List.take_succ_cons, List.take_succ_cons, sumFrom, sumFrom]
      exact ih (by simpa using h)

set_option maxRecDepth 100000 in
set_option maxHeartbeats 4000000 in
theorem Sum_calls (v : Value) (bs : List UInt8) (w : World) (h : rpByte.SL w w.heap.size bs v) (R : Ending → World → Prop) (hR : R (.returned (.int .i64 (sumL bs : Nat))) w) :
    Calls Tryd.prog 59 #[v] w R := by
  obtain ⟨A, c, rfl, hm, hcap, h⟩ := h.cases_
  have HR := Lib.hid hR
  have H := Lib.hid h
  clear hR h
  go_enter Tryd.func59, Tryd.ntmps59
  go_wp2
  go_loopg [3, 5, 8] bs.length (fun g s s5 i wr => ∃ k : Nat, k ≤ bs.length ∧ g = bs.length - k ∧ i = .int .i64 k ∧ s = .int .i64 (sumL (bs.take k) : Nat) ∧ wr = w)
  case atStart => exact ⟨0, Nat.zero_le _, rfl, rfl, rfl, rfl⟩
  case round =>
    obtain ⟨k, hk, rfl, rfl, rfl, rfl⟩ := hrel
    have i1 : (0 : Int) ≤ (k : Int) := Int.natCast_nonneg _
    have hsl := sumL_lt (bs.take k)
    by_cases hlt : k < bs.length
    · obtain ⟨b, off, rfl, hb, q0⟩ := H.out.byte_at hlt
      have i2 : (k : Int) < (bs.length : Int) := by omega
      have hst := sumFrom_take (n := 0) hlt
      have hbl := bs[k].toNat_lt
      have hst2 : sumL (bs.take (k + 1)) = (31 * sumL (bs.take k) + bs[k].toNat + 1) % 65521 := hst
      have Hst := Lib.hid hst2
      generalize sumL (bs.take k) = n at *
      generalize bs[k].toNat = x at *
      clear hst hst2
      have j0 : (0 : Int) ≤ (n : Int) := by omega
      have j1 : (n : Int) < 65521 := by omega
      have j2 : (0 : Int) ≤ (x : Int) := by omega
      have j3 : (x : Int) < 256 := by omega
      go_wp2
      go_roundg (bs.length - (k + 1))
      case measure => omega
      case rel => exact ⟨k + 1, hlt, rfl, by go_num, by rw [Hst.out]; go_num, rfl⟩
    · obtain rfl : k = bs.length := by omega
      rw [List.take_length] at *
      go_wp2
      exact HR.out

set_option maxRecDepth 100000 in
set_option maxHeartbeats 4000000 in
theorem SumOf_calls (v : Value) (bs : List UInt8) (w : World) (h : rpByte.SL w w.heap.size bs v) (R : Ending → World → Prop) (hR : R (.returned (.int .i64 (sumL bs : Nat))) w) :
    Calls Tryd.prog 69 #[v] w R := by
  obtain ⟨A, c, rfl, hm, hcap, h⟩ := h.cases_
  have HR := Lib.hid hR
  have H := Lib.hid h
  clear hR h
  go_enter Tryd.func69, Tryd.ntmps69
  go_wp2
  go_loopg [3, 4] bs.length (fun g s i wr => ∃ k : Nat, k ≤ bs.length ∧ g = bs.length - k ∧ i = .int .i64 k ∧ s = .int .i64 (sumL (bs.take k) : Nat) ∧ wr = w)
  case atStart => exact ⟨0, Nat.zero_le _, rfl, rfl, rfl, rfl⟩
  case round =>
    obtain ⟨k, hk, rfl, rfl, rfl, rfl⟩ := hrel
    have i1 : (0 : Int) ≤ (k : Int) := Int.natCast_nonneg _
    have hsl := sumL_lt (bs.take k)
    by_cases hlt : k < bs.length
    · obtain ⟨b, off, rfl, hb, q0⟩ := H.out.byte_at hlt
      have i2 : (k : Int) < (bs.length : Int) := by omega
      have hst := sumFrom_take (n := 0) hlt
      have hbl := bs[k].toNat_lt
      have hst2 : sumL (bs.take (k + 1)) = (31 * sumL (bs.take k) + bs[k].toNat + 1) % 65521 := hst
      have Hst := Lib.hid hst2
      generalize sumL (bs.take k) = n at *
      generalize bs[k].toNat = x at *
      clear hst hst2
      have j0 : (0 : Int) ≤ (n : Int) := by omega
      have j1 : (n : Int) < 65521 := by omega
      have j2 : (0 : Int) ≤ (x : Int) := by omega
      have j3 : (x : Int) < 256 := by omega
      go_wp2
      go_roundg (bs.length - (k + 1))
      case measure => omega
      case rel => exact ⟨k + 1, hlt, rfl, by go_num, by rw [Hst.out]; congr 1; omega, rfl⟩
    · obtain rfl : k = bs.length := by omega
      rw [List.take_length] at *
      go_wp2
      exact HR.out
end Go.Proofs.YtkodcoianakjoaaDoor
