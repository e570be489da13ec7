/- The reader of bytes: its state, its next byte. -/
import Derived.Test.YtkodcoianakjoaaDoorLib
import Derived.Test.YtkodcoianakjoaaDoorRows
import Derived.IntWalk
import Derived.Deep.LoopGhost
import Derived.Test.YtkodcoianakjoaaDoorLib2
import Derived.Test.YtkodcoianakjoaaDoorLib3
import Derived.Test.YtkodcoianakjoaaDoorMac4
namespace Go.Proofs.YtkodcoianakjoaaDoor
open Go.RowKit
set_option linter.unusedSimpArgs false
set_option linter.unusedVariables false

/-- A reader lies in block p: what is left of the bytes, and whether something did not stand there. -/
def Rd (w : World) (p : Nat) (bs : List UInt8) (bad : Bool) : Prop := ∃ v T, w.heap[p]? = some (.cells #[v, .bool bad] T (0, 0)) ∧ rpByte.SL w p bs v
theorem Rd.lt {w : World} {p : Nat} {bs : List UInt8} {bad : Bool} (h : Rd w p bs bad) : p < w.heap.size := by
  obtain ⟨v, T, h, _⟩ := h
  rcases Nat.lt_or_ge p w.heap.size with hlt | hge
  · exact hlt
  · rw [Array.getElem?_eq_none hge] at h
    cases h
theorem cells_of_block {w : World} {p : Nat} {u v : Value} {T : TypeId} (h : w.heap[p]? = some (.cells #[u, v] T (0, 0))) : w.cell? ⟨p, 0, none⟩ = some u ∧ w.cell? ⟨p, 1, none⟩ = some v ∧ w.frozen? ⟨p, 0, none⟩ = false ∧ w.frozen? ⟨p, 1, none⟩ = false := by
  refine ⟨?_, ?_, ?_, ?_⟩ <;> simp [World.cell?, World.frozen?, h]
theorem Rp.SL.byte_at {w : World} {B : Nat} {xs : List UInt8} {A : Option Addr} {n c k : Nat} (h : rpByte.SL w B xs (.slice A n c)) (hk : k < xs.length) : ∃ b off, A = some ⟨b, off, none⟩ ∧ b < B ∧ w.cell? ⟨b, off + k, none⟩ = some (.int .u8 (xs[k].toNat : Nat)) := by
  obtain ⟨b, off, cs, hA, hb, hr, hcs⟩ := h.at_ (List.getElem?_eq_getElem hk)
  refine ⟨b, off, hA, hb, ?_⟩
  cases hr
  have := hcs 0 _ rfl
  simpa [rpByte] using this
theorem SL_grown {α : Type} {r : Rp α} {w w' : World} {p : Nat} {xs : List α} {v : Value} (h : r.SL w p xs v) (hg : w.grownBy w' (some p)) (hp : p ≤ w.heap.size) : r.SL w' p xs v :=
  h.keep fun q hq => World.cell?_of_block (hg.block _ (by omega) (by intro e; injection e with e; omega))
theorem grown_trans {a b c : World} {p : Nat} (h : a.grownBy b (some p)) (k : b.grownBy c (some p)) : a.grownBy c (some p) :=
  ⟨k.os.trans h.os, k.tape.trans h.tape, k.output.trans h.output, Nat.le_trans h.size k.size, fun i hi hne => (k.block i (Nat.lt_of_lt_of_le hi h.size) hne).trans (h.block i hi hne)⟩
theorem grown_refl (a : World) (row : Option Nat) : a.grownBy a row := ⟨rfl, rfl, rfl, Nat.le_refl _, fun _ _ _ => rfl⟩
theorem Rd.other {w w' : World} {p : Nat} {bs : List UInt8} {bad : Bool} (h : Rd w p bs bad) (hb : Below w.heap.size w w') : Rd w' p bs bad := by
  have hl := h.lt
  obtain ⟨v, T, h1, h2⟩ := h
  exact ⟨v, T, (hb.block p hl).trans h1, h2.keep fun q hq => hb.cell (by omega)⟩

theorem Byte_calls (p : Nat) (bs : List UInt8) (bad : Bool) (w : World) (h : Rd w p bs bad) (R : Ending → World → Prop)
    (hnil : bs = [] → ∀ w', w.grownBy w' (some p) → Rd w' p [] true → R (.returned (.int .i64 0)) w')
    (hcons : ∀ b r, bs = b :: r → ∀ w', w.grownBy w' (some p) → Rd w' p r bad → R (.returned (.int .i64 (b.toNat : Nat))) w') :
    Calls Tryd.prog 99 #[.pointer (some ⟨p, 0, none⟩)] w R := by
  have hlt := h.lt
  obtain ⟨v, T, hb, hs⟩ := h
  obtain ⟨c0, c1, z0, z1⟩ := cells_of_block hb
  obtain ⟨A, c, rfl, hm, hcap, hs⟩ := hs.cases_
  have Hb := Lib.hid hb
  have Hnil := Lib.hid hnil
  have Hcons := Lib.hid hcons
  clear hb hnil hcons
  cases bs with
  | nil =>
    have Hn := Lib.hid (Hnil.out rfl)
    clear Hnil Hcons
    simp only [List.length_nil] at *
    go_enter Tryd.func99, Tryd.ntmps99
    go_wp2
    refine Hn.out _ (grown_setCell w ⟨p, 1, none⟩ _) ⟨_, T, by rw [block_set Hb.out]; rfl, SL_grown hs (grown_setCell w ⟨p, 1, none⟩ _) (by omega)⟩
  | cons b r =>
    obtain ⟨g, off, rfl, hg, q0⟩ := hs.byte_at (k := 0) (by simp)
    have hn : (((b :: r).length : Int) == 0) = false := by rw [beq_eq_false_iff_ne]; simp only [List.length_cons]; omega
    have i0 : (0 : Int) < ((b :: r).length : Int) := by simp only [List.length_cons]; omega
    have i1 : (1 : Int) ≤ ((b :: r).length : Int) := by simp only [List.length_cons]; omega
    have i2 : ((b :: r).length : Int) ≤ (c : Int) := by omega
    simp only [List.getElem_cons_zero, Nat.add_zero] at q0
    have Hs := Lib.hid hs
    have Hc := Lib.hid (Hcons.out b r rfl)
    have hwr : wrap64 ((b.toNat : Nat) : Int) = (b.toNat : Nat) := by have := b.toNat_lt; unfold wrap64; omega
    clear hs Hnil Hcons
    go_enter Tryd.func99, Tryd.ntmps99
    go_wp2
    all_goals
      refine Hc.out _ (grown_setCell w ⟨p, 0, none⟩ _) ⟨_, T, by rw [block_set Hb.out]; rfl, SL_grown ?_ (grown_setCell w ⟨p, 0, none⟩ _) (by omega)⟩
    · obtain rfl : c = 1 := by assumption
      have := Hs.out.drop_ (k := 1) (by simp) off (by intro h; omega)
      simpa using this
    · have := Hs.out.drop_ (k := 1) (by simp) (off + 1) (by intro h; rfl)
      simpa using this
end Go.Proofs.YtkodcoianakjoaaDoor
