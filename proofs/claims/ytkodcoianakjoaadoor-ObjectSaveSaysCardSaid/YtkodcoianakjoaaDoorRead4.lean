/- The reader's numbers. -/
import Derived.Test.YtkodcoianakjoaaDoorLib
import Derived.Test.YtkodcoianakjoaaDoorRows
import Derived.IntWalk
import Derived.Deep.LoopGhost
import Derived.Test.YtkodcoianakjoaaDoorRead3
namespace Go.Proofs.YtkodcoianakjoaaDoor
open Go.RowKit
set_option linter.unusedSimpArgs false
set_option linter.unusedVariables false

theorem or_low {acc x s : Nat} (h : acc < 2 ^ s) (hx : x * 2 ^ s < 18446744073709551616) (ha : acc < 18446744073709551616) : bits .or .u64 (acc : Int) (IntKind.u64.wrap ((x : Int) * 2 ^ s)) = ((acc + x * 2 ^ s : Nat) : Int) := by
  have e : ((x : Int) * 2 ^ s) = ((x * 2 ^ s : Nat) : Int) := by push_cast; rfl
  rw [e, IntKind.wrap_u64, show ((x * 2 ^ s : Nat) : Int) % 18446744073709551616 = ((x * 2 ^ s : Nat) : Int) from by omega, bits_or_u64_nat _ _ ha hx, Nat.or_comm, Nat.mul_comm x, ← Nat.two_pow_add_eq_or_of_lt h, Nat.add_comm]

theorem numL_step {i acc : Nat} {b : UInt8} {r : List UInt8} (hi : i < 10) : numL (10 - i) i acc (b :: r) = if (i = 9 ∧ 1 < b.toNat) ∨ (0 < i ∧ b.toNat = 0) then none else if b.toNat < 128 then some (acc + b.toNat * 2 ^ (7 * i), r) else numL (10 - (i + 1)) (i + 1) (acc + (b.toNat - 128) * 2 ^ (7 * i)) r := by
  rw [show 10 - i = (10 - (i + 1)) + 1 from by omega, numL]
theorem numL_nil {i acc : Nat} (hi : i < 10) : numL (10 - i) i acc [] = none := by
  rw [show 10 - i = (10 - (i + 1)) + 1 from by omega, numL]
theorem pow_fits {x i : Nat} (hi : i < 10) (hx : x < 128) (h9 : i = 9 → x < 2) : x * 2 ^ (7 * i) < 18446744073709551616 := by
  by_cases h : i = 9
  · subst h
    have := h9 rfl
    simp
    omega
  · have h1 : 2 ^ (7 * i) ≤ 2 ^ 56 := Nat.pow_le_pow_right (by decide) (by omega)
    have h2 : x * 2 ^ (7 * i) ≤ 127 * 2 ^ 56 := Nat.mul_le_mul (by omega) h1
    omega

/-- What a call of Byte leaves. -/
def byteS : List UInt8 → Bool → Nat × List UInt8 × Bool
  | [], _ => (0, [], true)
  | b :: r, bad => (b.toNat, r, bad)
theorem Byte_any (p : Nat) (bs : List UInt8) (bad : Bool) (w : World) (h : Rd w p bs bad) (R : Ending → World → Prop)
    (hR : ∀ (x : Nat) (r : List UInt8) (q : Bool), byteS bs bad = (x, r, q) → x < 256 → ∀ w', w.grownBy w' (some p) → Rd w' p r q → R (.returned (.int .i64 (x : Int))) w') :
    Calls Tryd.prog 99 #[.pointer (some ⟨p, 0, none⟩)] w R :=
  Byte_calls p bs bad w h R (fun e w' hg hr => by subst e; exact hR 0 [] true rfl (by omega) w' hg hr) (fun b r e w' hg hr => by subst e; exact hR b.toNat r bad rfl b.toNat_lt w' hg hr)

def stepN (i acc x : Nat) (r : List UInt8) : Option (Nat × List UInt8) :=
  if (i = 9 ∧ 1 < x) ∨ (0 < i ∧ x = 0) then none else if x < 128 then some (acc + x * 2 ^ (7 * i), r) else numL (10 - (i + 1)) (i + 1) (acc + (x - 128) * 2 ^ (7 * i)) r
theorem byte_step {i acc x : Nat} {l r : List UInt8} {q q1 bad : Bool} {T : Option (Nat × List UInt8)} (hi : i < 10) (h : byteS l q = (x, r, q1)) (h0 : q = false → bad = false ∧ numL (10 - i) i acc l = T) (h1 : q = true → bad = true ∨ T = none) :
    (q1 = false → bad = false ∧ stepN i acc x r = T) ∧ (q1 = true → bad = true ∨ T = none) := by
  cases l with
  | nil =>
    simp only [byteS, Prod.mk.injEq] at h
    obtain ⟨rfl, rfl, rfl⟩ := h
    refine ⟨fun h => (Bool.noConfusion h), fun _ => ?_⟩
    cases q
    · right
      rw [← (h0 rfl).2, numL_nil hi]
    · exact h1 rfl
  | cons b l =>
    simp only [byteS, Prod.mk.injEq] at h
    obtain ⟨rfl, rfl, rfl⟩ := h
    refine ⟨fun h => ?_, h1⟩
    have := h0 h
    rw [numL_step hi] at this
    exact this
theorem acc_fits {i acc x : Nat} (hi : i < 10) (ha : acc < 2 ^ (7 * i)) (hx : x < 128) (h9 : i = 9 → x < 2) : acc + x * 2 ^ (7 * i) < 2 ^ (7 * (i + 1)) ∧ acc + x * 2 ^ (7 * i) < 18446744073709551616 := by
  have e : 2 ^ (7 * (i + 1)) = 128 * 2 ^ (7 * i) := by rw [Nat.mul_add, Nat.pow_add, Nat.mul_comm]
  have h1 : x * 2 ^ (7 * i) ≤ 127 * 2 ^ (7 * i) := Nat.mul_le_mul_right _ (by omega)
  refine ⟨by omega, ?_⟩
  by_cases h : i = 9
  · subst h
    have := h9 rfl
    simp at ha ⊢
    omega
  · have h2 : 2 ^ (7 * i) ≤ 2 ^ 56 := Nat.pow_le_pow_right (by decide) (by omega)
    omega

set_option maxRecDepth 100000 in
set_option maxHeartbeats 4000000 in
theorem Number_calls (p : Nat) (bs : List UInt8) (bad : Bool) (w : World) (h : Rd w p bs bad) (R : Ending → World → Prop)
    (hgood : ∀ n r, n < 18446744073709551616 → bad = false → numberL bs = some (n, r) → ∀ w', w.grownBy w' (some p) → Rd w' p r false → R (.returned (.int .u64 (n : Nat))) w')
    (hbad : (bad = true ∨ numberL bs = none) → ∀ (w' : World) (n : Nat) r, n < 18446744073709551616 → w.grownBy w' (some p) → Rd w' p r true → R (.returned (.int .u64 (n : Nat))) w') :
    Calls Tryd.prog 90 #[.pointer (some ⟨p, 0, none⟩)] w R := by
  have Hgood := Lib.hid hgood
  have Hbad := Lib.hid hbad
  have Hrd := Lib.hid h
  clear hgood hbad h
  go_enter Tryd.func90, Tryd.ntmps90
  go_wp2
  go_loopg [3, 4, 5] 10 (fun g n s b wr => ∃ (i acc : Nat) (l : List UInt8) (q : Bool), i ≤ 10 ∧ g = 10 - i ∧ n = .int .u64 (acc : Int) ∧ s = .int .i64 ((7 * i : Nat) : Int) ∧ acc < 2 ^ (7 * i) ∧ acc < 18446744073709551616 ∧ Rd wr p l q ∧ w.grownBy wr (some p) ∧ (q = false → bad = false ∧ numL (10 - i) i acc l = numberL bs) ∧ (q = true → bad = true ∨ numberL bs = none))
  case atStart => exact ⟨0, 0, bs, bad, by omega, rfl, rfl, rfl, by omega, by omega, Hrd.out, grown_refl _ _, fun h => ⟨h, rfl⟩, fun h => .inl h⟩
  case round =>
    obtain ⟨i, acc, l, q, hi, rfl, rfl, rfl, ha, ha2, hrd, hgr, hq0, hq1⟩ := hrel
    have Hq0 := Lib.hid hq0
    have Hq1 := Lib.hid hq1
    have Hgr := Lib.hid hgr
    have Ha := Lib.hid ha
    clear hq0 hq1 hgr ha Hrd
    by_cases hlt : i < 10
    · have i1 : ((7 * i : Nat) : Int) < 70 := by omega
      go_wp2_with fail
      refine Byte_any p l q _ hrd _ (fun x r q1 hbs hx w1 hg1 hr1 => ?_)
      obtain ⟨h0, h1⟩ := byte_step hlt hbs Hq0.out Hq1.out
      have H0 := Lib.hid h0
      have H1 := Lib.hid h1
      have Hg1 := Lib.hid (grown_trans Hgr.out hg1)
      clear Hq0 Hq1 Hgr hrd hbs h0 h1 hg1
      -- Bad is set, whatever it was
      obtain ⟨vv, TT, hbk, hss⟩ := id hr1
      have hlp : p < w1.heap.size := hr1.lt
      have Hset : Hid (∀ T, (q1 = true ∨ stepN i acc x r = none) → T = w1.setCell ⟨p, 1, none⟩ (.bool true) → R (.returned (.int .u64 0)) T) := Lib.hid fun T hc e => by
        subst e
        refine Hbad.out ?_ _ 0 r (by omega) (grown_trans Hg1.out (grown_setCell w1 ⟨p, 1, none⟩ _)) ⟨vv, TT, by rw [block_set hbk]; rfl, SL_grown hss (grown_setCell w1 ⟨p, 1, none⟩ _) (by omega)⟩
        cases q1
        · right
          rw [← (H0.out rfl).2]
          exact hc.resolve_left (by simp)
        · exact H1.out rfl
      obtain ⟨c0, c1, z0, z1⟩ := cells_of_block hbk
      have Hret : Hid (∀ n : Int, x < 128 → ¬ ((i = 9 ∧ 1 < x) ∨ (0 < i ∧ x = 0)) → n = ((acc + x % 128 * 2 ^ (7 * i) : Nat) : Int) → acc + x % 128 * 2 ^ (7 * i) < 18446744073709551616 → R (.returned (.int .u64 n)) w1) := Lib.hid fun n hx hc e hf => by
        subst e
        rw [Nat.mod_eq_of_lt hx] at hf ⊢
        cases q1
        · refine Hgood.out _ r hf (H0.out rfl).1 ?_ _ Hg1.out hr1
          rw [← (H0.out rfl).2, stepN, if_neg hc, if_pos hx]
        · exact Hbad.out (H1.out rfl) _ _ r hf Hg1.out hr1
      have Hnext : Hid (¬ x < 128 → ¬ (0 < i ∧ x = 0) → (q1 = false → bad = false ∧ numL (10 - (i + 1)) (i + 1) (acc + x % 128 * 2 ^ (7 * i)) r = numberL bs)) := Lib.hid fun h1 h2 hq => by
        have h3 := H0.out hq
        rw [stepN] at h3
        refine ⟨h3.1, ?_⟩
        rw [← h3.2]
        by_cases h9 : i = 9
        · subst h9
          rw [if_pos (by omega)]
          rfl
        · rw [if_neg (by omega), if_neg h1, show x % 128 = x - 128 from by omega]
      have Hr1 := Lib.hid hr1
      clear hr1 hbk hss
      have hx0 : (0 : Int) ≤ (x : Int) := Int.natCast_nonneg _
      have hx1 : (x : Int) < 256 := by omega
      by_cases hb : 0 < i ∧ x = 0
      · have Hend := Lib.hid (fun T => Hset.out T (.inr (by rw [stepN, if_pos (.inr hb)])))
        obtain ⟨hb1, rfl⟩ := hb
        have j0 : (0 : Int) < ((7 * i : Nat) : Int) := by omega
        clear Hset Hret Hnext
        go_wp2
        exact Hend.out _ rfl
      have hm := bits_mask .i64 63 (by decide) (fun n h0 h1 => by rw [IntKind.wrap_i64]; omega) 7 (by decide) (x : Int) (by omega) (by omega)
      have hm' : bits .and .i64 (x : Int) 127 = ((x % 128 : Nat) : Int) := by simpa using hm
      clear hm
      by_cases h9 : i = 9 ∧ 2 ≤ x % 128
      · have Hend := Lib.hid (fun T => Hset.out T (.inr (by rw [stepN, if_pos (.inl (by omega))])))
        obtain ⟨rfl, h9⟩ := h9
        have hxn : ((x : Int) == 0) = false := by simp; omega
        clear Hset Hret Hnext
        go_wp2_with (first | (go_at_call 100; refine Len_calls (x % 128) (Nat.mod_lt _ (by decide)) _ _ (fun n n0 n1 n2 => ?_); have n3 : (2 : Int) ≤ n := n2.2 h9; clear n2; have n4 : (64 : Int) < 63 + n := by omega))
        all_goals exact Hend.out _ rfl
      obtain ⟨k1, k2⟩ := acc_fits (x := x % 128) hlt Ha.out (Nat.mod_lt _ (by decide)) (fun h => by omega)
      have K1 := Lib.hid k1
      have K2 := Lib.hid k2
      have hor := or_low (x := x % 128) (s := 7 * i) Ha.out (pow_fits hlt (Nat.mod_lt _ (by decide)) (fun h => by omega)) ha2
      rw [show ((x % 128 : Nat) : Int) = (x : Int) % 128 from by omega] at hor
      have Hor := Lib.hid hor
      have Hx2 := Lib.hid (show ∀ n : Int, n ≤ 7 → (2 ≤ n ↔ 2 ≤ x % 128) → ¬ (64 : Int) < ((7 * i : Nat) : Int) + n from fun n n1 n2 => by omega)
      have Hi := Lib.hid hlt
      have Hb := Lib.hid hb
      have H9 := Lib.hid h9
      have Hc : Hid (x < 128 → ¬ ((i = 9 ∧ 1 < x) ∨ (0 < i ∧ x = 0))) := Lib.hid (by omega)
      clear k1 k2 hb h9 hlt Hset hor
      by_cases hi0 : i = 0
      · subst hi0
        have hor := Hor.out
        rw [show IntKind.u64.wrap ((x : Int) % 128 * 2 ^ (7 * 0)) = (x : Int) % 128 from by rw [IntKind.wrap_u64]; simp; omega] at hor
        clear Hor
        have Hor := Lib.hid hor
        clear hor
        by_cases hx128 : x < 128
        · have hxi : (x : Int) < 128 := by omega
          have HR := Lib.hid (fun n => Hret.out n hx128 (Hc.out hx128))
          clear hx128 Hret Hnext
          go_wp2_with (first | (go_at_call 100; refine Len_calls (x % 128) (Nat.mod_lt _ (by decide)) _ _ (fun n n0 n1 n2 => ?_); have n3 := Hx2.out n n1 n2; clear n2; have n4 : ¬ (64 : Int) < n := by omega))
          all_goals exact HR.out _ Hor.out K2.out
        · have hxi : ¬ (x : Int) < 128 := by omega
          have HN := Lib.hid (Hnext.out hx128 (by omega))
          clear hx128 Hret Hnext
          go_wp2_with (first | (go_at_call 100; refine Len_calls (x % 128) (Nat.mod_lt _ (by decide)) _ _ (fun n n0 n1 n2 => ?_); have n3 := Hx2.out n n1 n2; clear n2; have n4 : ¬ (64 : Int) < n := by omega))
          all_goals
            go_roundg 9
            case measure => omega
            case rel => exact ⟨1, _, r, q1, by omega, rfl, by rw [← Hor.out], rfl, K1.out, K2.out, Hr1.out, Hg1.out, HN.out, H1.out⟩
      · have hgz : ((0 : Int) < ((7 * i : Nat) : Int)) := by omega
        have hxz : ((x : Int) == 0) = false := by have := Hb.out; simp; omega
        by_cases hx128 : x < 128
        · have hxi : (x : Int) < 128 := by omega
          have HR := Lib.hid (fun n => Hret.out n hx128 (Hc.out hx128))
          clear hx128 Hret Hnext
          go_wp2_with (first | (go_at_call 100; refine Len_calls (x % 128) (Nat.mod_lt _ (by decide)) _ _ (fun n n0 n1 n2 => ?_); have n3 := Hx2.out n n1 n2; clear n2))
          all_goals exact HR.out _ Hor.out K2.out
        · have hxi : ¬ (x : Int) < 128 := by omega
          have HN := Lib.hid (Hnext.out hx128 Hb.out)
          clear hx128 Hret Hnext
          go_wp2_with (first | (go_at_call 100; refine Len_calls (x % 128) (Nat.mod_lt _ (by decide)) _ _ (fun n n0 n1 n2 => ?_); have n3 := Hx2.out n n1 n2; clear n2))
          all_goals
            go_roundg (10 - (i + 1))
            case measure => have := Hi.out; omega
            case rel => exact ⟨i + 1, _, r, q1, Hi.out, rfl, by rw [← Hor.out], by go_num, K1.out, K2.out, Hr1.out, Hg1.out, HN.out, H1.out⟩
    · obtain rfl : i = 10 := by omega
      have hn : ∀ r, numL (10 - 10) 10 acc r = none := fun _ => rfl
      obtain ⟨vv, TT, hbk, hss⟩ := id hrd
      have hlp : p < wr.heap.size := hrd.lt
      obtain ⟨c0, c1, z0, z1⟩ := cells_of_block hbk
      have Hend : Hid (∀ T, T = wr.setCell ⟨p, 1, none⟩ (.bool true) → R (.returned (.int .u64 0)) T) := Lib.hid fun T e => by
        subst e
        refine Hbad.out ?_ _ 0 l (by omega) (grown_trans Hgr.out (grown_setCell wr ⟨p, 1, none⟩ _)) ⟨vv, TT, by rw [block_set hbk]; rfl, SL_grown hss (grown_setCell wr ⟨p, 1, none⟩ _) (by omega)⟩
        cases q
        · right
          rw [← (Hq0.out rfl).2]
          rfl
        · exact Hq1.out rfl
      clear hbk hss hn hrd
      go_wp2
      exact Hend.out _ rfl
end Go.Proofs.YtkodcoianakjoaaDoor
