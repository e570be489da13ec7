/- The law: a ring of any length goes round by one. -/
import Derived.Test.YtfcecemmgflmlaaLib
import Derived.Test.YtfcecemmgflmlaaRows
import Derived.IntWalk
import Derived.Deep.LoopGhost
import Derived.Test.YtfcecemmgflmlaaMovesPlain3
import Derived.Test.YtfcecemmgflmlaaMoves10
namespace Go.Proofs.Ytfcecemmgflmlaa
open Go.RowKit
set_option linter.unusedSimpArgs false
set_option linter.unusedVariables false

def roundM (n f i : Nat) : Move := ⟨(((i + f) % n : Nat) : Int), ((((i + f) % n + 1) % n : Nat) : Int)⟩
def roundK (n f k : Nat) : List Move := (List.range k).map (roundM n f)
theorem roundK_succ (n f k : Nat) : roundK n f (k + 1) = roundK n f k ++ [roundM n f k] := by simp [roundK, List.range_succ]
theorem roundK_length (n f k : Nat) : (roundK n f k).length = k := by simp [roundK]

theorem natmod {a n : Nat} : ((a : Int)).tmod (n : Int) = ((a % n : Nat) : Int) := by
  rw [Int.tmod_eq_emod_of_nonneg (Int.natCast_nonneg _)]; rfl

set_option maxRecDepth 100000 in
set_option maxHeartbeats 1000000 in
theorem MovesRound_calls (long from_ : Int) (hlo : I64 long) (hfr : I64 from_) (w : World) (R : Ending → World → Prop)
    (hR : ∀ w', Below w.heap.size w w' → R (.returned (.bool true)) w') :
    Calls Try.prog 9 #[.int .i64 long, .int .i64 from_] w R := by
  obtain ⟨i0, hi, hz0, hz1, hz2⟩ := info_parts info_Move
  have HR := Lib.hid hR
  have Hfr := Lib.hid hfr
  clear hR hfr
  go_enter Try.func9, Try.ntmps9
  go_wp2_with fail
  refine Picked_calls long 8 (by omega) (by omega) hlo _ _ ?_
  obtain ⟨p, hp⟩ : ∃ p : Nat, long % 8 = (p : Int) := ⟨(long % 8).toNat, by omega⟩
  have hp8 : p < 8 := by omega
  rw [hp]
  clear hp hlo
  obtain ⟨f, hf⟩ : ∃ f : Nat, from_ % ((p : Int) + 2) = (f : Int) := ⟨(from_ % ((p : Int) + 2)).toNat, by
    have := Int.emod_nonneg from_ (b := (p : Int) + 2) (by omega); omega⟩
  have hfp : f < p + 2 := by
    have := Int.emod_lt_of_pos from_ (b := (p : Int) + 2) (by omega); omega
  have Hring := Lib.hid (ring_all p hp8 f hfp)
  have hf' : from_ % (2 + (p : Int)) = (f : Int) := by rw [Int.add_comm]; exact hf
  have Hf := Lib.hid hf'
  have hp0 : (0 : Int) ≤ (p : Int) := Int.natCast_nonneg _
  have hp1 : (p : Int) < 8 := by omega
  clear hf hf'
  go_wp2
  go_loopg [6, 7] (p + 2) (fun g u i wr => ∃ k : Nat, k ≤ p + 2 ∧ g = p + 2 - k ∧ i = .int .i64 k ∧ wr.ownsRow w.heap.size 47 2 u k ((roundK (p + 2) f k).flatMap Move.cells) ∧ Below w.heap.size w wr)
  case atStart => exact ⟨0, Nat.zero_le _, rfl, rfl, World.ownsRow_nil _ _ _ _, Below.refl _ _⟩
  case round =>
    obtain ⟨k, hk, rfl, rfl, hown, hbel⟩ := hrel
    by_cases hlt : k < p + 2
    · have i1 : (0 : Int) ≤ (k : Int) := Int.natCast_nonneg _
      have i2 : (k : Int) < 2 + (p : Int) := by omega
      have hwz := hbel.size
      go_wp2_with fail
      refine Picked_calls from_ (2 + (p : Int)) (by omega) (by omega) Hfr.out _ _ ?_
      rw [Hf.out]
      have j1 : ((k : Int) + (f : Int)).tmod (2 + (p : Int)) = (((k + f) % (p + 2) : Nat) : Int) := by
        rw [show (2 + (p : Int)) = ((p + 2 : Nat) : Int) by omega, show ((k : Int) + (f : Int)) = ((k + f : Nat) : Int) by omega]; exact natmod
      have j2 : ((((k + f) % (p + 2) : Nat) : Int) + 1).tmod (2 + (p : Int)) = ((((k + f) % (p + 2) + 1) % (p + 2) : Nat) : Int) := by
        rw [show (2 + (p : Int)) = ((p + 2 : Nat) : Int) by omega, show ((((k + f) % (p + 2) : Nat) : Int) + 1) = (((k + f) % (p + 2) + 1 : Nat) : Int) from rfl]; exact natmod
      have hsuc := Lib.hid (roundK_succ (p + 2) f k)
      unfold roundM at hsuc
      have l1 : (k + f) % (p + 2) < p + 2 := Nat.mod_lt _ (by omega)
      generalize ((k + f) % (p + 2) + 1) % (p + 2) = q2 at *
      generalize (k + f) % (p + 2) = q1 at *
      have hlen := roundK_length (p + 2) f k
      generalize roundK (p + 2) f k = F at *
      have l2 : (0 : Int) ≤ (f : Int) := Int.natCast_nonneg _
      have l3 : (f : Int) < 2 + (p : Int) := by omega
      have l4 : (0 : Int) ≤ (q1 : Int) := Int.natCast_nonneg _
      have l5 : (q1 : Int) < 2 + (p : Int) := by omega
      have hl := Lib.hid hlen
      obtain ⟨A5, c5, rfl⟩ := own_slice hown
      clear hlen l1
      go_wp2_with (at_builtin; refine wpList_append_own _ rfl _ _ 34 rfl w.heap.size 47 i0 _ 2 16 Try.underlying34 hi hz0 hz1 hz2 rfl (by decide) (.slice A5 k c5) k (F.flatMap Move.cells) rfl (hown.alloc _) ⟨wr.heap.size, 0, none⟩ 1 1 [.int .i64 (q1 : Int), .int .i64 (q2 : Int)] rfl rfl ?_ ?_ ?_ ?_ ?_ ?_)
      any_goals (first | exact World.news_of_block (cs := #[.int .i64 (q1 : Int), .int .i64 (q2 : Int)]) (t := 47) (fr := (0, 0)) (heap_alloc_new wr _) | (simp [Value.oneCell']; done) | (unfold maxLen; omega) | omega | (simp; done) | (simp; omega))
      · intro v' w2 hown1 hgrow _
        have hbel1 := (hbel.alloc hwz (.cells #[.int .i64 (q1 : Int), .int .i64 (q2 : Int)] 47)).grown hgrow (by simp; omega) (fun k hk => (hown.lt k hk).1)
        have H1 := Lib.hid (And.intro hown1 hbel1)
        clear hown1 hbel1 hown hbel hgrow
        go_wp2
        go_roundg (p + 2 - (k + 1))
        case measure => omega
        case rel =>
          refine ⟨k + 1, by omega, rfl, by go_num, ?_, H1.out.2⟩
          rw [hsuc.out, List.flatMap_append]
          exact H1.out.1
    · obtain rfl : k = p + 2 := by omega
      obtain ⟨r1, r2, r3, r4, r5⟩ := Hring.out
      have hlen := roundK_length (p + 2) f (p + 2)
      have he : roundK (p + 2) f (p + 2) = roundL (p + 2) f := rfl
      rw [he] at hown hlen
      generalize roundL (p + 2) f = l at *
      obtain ⟨A1, c1, rfl⟩ := own_slice hown
      have hs1 : rpMove.SL wr wr.heap.size l (.slice A1 (p + 2) c1) := by rw [← hlen] at hown ⊢; exact SLMove_own hown (Nat.le_refl _)
      have Hbel := Lib.hid hbel
      have hwz := hbel.size
      have ht : Ten l := ⟨r2, r3⟩
      have Hten := Lib.hid ht
      have R4 := Lib.hid r4
      have R5 := Lib.hid r5
      clear hown hbel he r1 r2 r3 r4 r5 ht Hring
      go_wp2_with fail
      refine rowed_calls _ l _ hs1 (ten_fault Hten.out) (by omega) (ten_fine Hten.out) _ ?_
      intro w2 v2 hb2 ho2
      have hs2 : rpMove.SL w2 w2.heap.size (row 10 l) v2 := SLMove_own ho2 (Nat.le_refl _)
      have hz2 : wr.heap.size ≤ w2.heap.size := hb2.size
      clear ho2
      go_wp2_with fail
      refine placed_calls _ (row 10 l) _ hs2 (row_range Hten.out) _ ?_
      intro w3 v3 hb3 ho3
      have hz3 : w2.heap.size ≤ w3.heap.size := hb3.size
      have hpl : (placedL (row 10 l)).length = 11 := by rw [placedL, placed_length]; rfl
      have hs3 : rpInt.SL w3 w3.heap.size (placedL (row 10 l)) v3 := Rp.SL.of_ints (by rw [hpl]; exact ho3) (Nat.le_refl _)
      have hb4 : Below wr.heap.size wr w3 := hb2.trans (hb3.mono hz2)
      have hb5 : Below w.heap.size w w3 := Hbel.out.trans (hb4.mono hwz)
      have Hb := Lib.hid hb5
      have hl2 : rpMove.SL w3 w3.heap.size (row 10 l) v2 := hs2.up hb3 hz3
      obtain ⟨A2, c2, rfl, hm2, hcap2, _⟩ := hl2.cases_
      have hrl := R4.out
      generalize placedL (row 10 l) = P at *
      generalize row 10 l = X at *
      obtain ⟨A3, c3, rfl, hm3, hcap3, hs3⟩ := hs3.cases_
      have hx : ((X.length : Int) != 2 + (p : Int) + 1) = false := by simp; omega
      have Hpl := Lib.hid hpl
      clear hb2 hb3 ho3 hs1 hs2 hb4 hb5 hl2 hpl hlen R4
      go_wp2
      go_loopg [13] (p + 2) (fun g i wx => ∃ k : Nat, k ≤ p + 2 ∧ g = p + 2 - k ∧ i = .int .i64 k ∧ ∃ d, wx = w3.drewN d)
      case atStart => exact ⟨0, by omega, rfl, rfl, 0, rfl⟩
      case round =>
        rename World => wx
        obtain ⟨k, hk, rfl, rfl, d, rfl⟩ := hrel
        by_cases hlt : k < p + 2
        · obtain ⟨b, off, rfl, hbk, p0⟩ := hs3.int_at (k := k) (by have := Hpl.out; omega)
          have i1 : (0 : Int) ≤ (k : Int) := Int.natCast_nonneg _
          have i2 : (k : Int) < 2 + (p : Int) := by omega
          have i4 : (k : Int) < (P.length : Int) := by have := Hpl.out; omega
          have j1 : ((k : Int) + 1).tmod (2 + (p : Int)) = (((k + 1) % (p + 2) : Nat) : Int) := by
            rw [show (2 + (p : Int)) = ((p + 2 : Nat) : Int) by omega, show ((k : Int) + 1) = ((k + 1 : Nat) : Int) from rfl]; exact natmod
          have hv := R5.out k hlt
          rw [hv] at p0
          have l1 : (k + 1) % (p + 2) < p + 2 := Nat.mod_lt _ (by omega)
          generalize (k + 1) % (p + 2) = q1 at *
          have l2 : (q1 : Int) < 10 := by omega
          have l3 : (0 : Int) ≤ (q1 : Int) := Int.natCast_nonneg _
          clear hv l1
          go_wp2_with fail
          go_quiet (fail)
          go_wp2
          go_roundg (p + 2 - (k + 1))
          case measure => omega
          case rel => exact ⟨k + 1, by omega, rfl, by go_num, _, rfl⟩
        · obtain rfl : k = p + 2 := by omega
          go_wp2
          exact HR.out _ (below_drewN Hb.out _)
end Go.Proofs.Ytfcecemmgflmlaa
