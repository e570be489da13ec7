/- The reader of bytes: its state, its next byte. The document's answer: which fields an Op speaks of. math/bits.Len at what is less than 128. The reader's numbers. The reader's numbers. Which registers an instruction speaks of: pointers to its fields. What bytes tell of registers, as the reader takes them. -/
import Derived.Test.YtcakodemngchpaaGreatDoorBase
import Derived.Test.YtcakodemngchpaaGreatDoorRows
import Derived.IntWalk
import Derived.Deep.LoopGhost
import Derived.Test.YtcakodemngchpaaGreatDoorMacB
import Derived.Laws.BitsLemmas
import Derived.Laws.Bits64
import Derived.Laws.Bits64b
/- The reader of bytes: its state, its next byte. -/
namespace Go.Proofs.YtcakodemngchpaaGreatDoor
open Go.RowKit
set_option linter.unusedSimpArgs false
set_option linter.unusedVariables false

/-- A reader lies in block p: what is left of the bytes, and whether something did not stand there. -/
def Rd (w : World) (p : Nat) (bs : List UInt8) (bad : Bool) : Prop := ∃ v T, w.heap[p]? = some (.cells #[v, .bool bad] T (0, 0)) ∧ rpByte.SL w p bs v
theorem Rd.lt {w : World} {p : Nat} {bs : List UInt8} {bad : Bool} (h : Rd w p bs bad) : p < w.heap.size := by
  obtain ⟨v, T, h, _⟩ := h
  rcases Nat.lt_or_ge p w.heap.size with hlt | hge
  · exact hlt
  · rw [Array.getElem?_eq_none hge] at h
    cases h
theorem cells_of_block {w : World} {p : Nat} {u v : Value} {T : TypeId} (h : w.heap[p]? = some (.cells #[u, v] T (0, 0))) : w.cell? ⟨p, 0, none⟩ = some u ∧ w.cell? ⟨p, 1, none⟩ = some v ∧ w.frozen? ⟨p, 0, none⟩ = false ∧ w.frozen? ⟨p, 1, none⟩ = false := by
  refine ⟨?_, ?_, ?_, ?_⟩ <;> simp [World.cell?, World.frozen?, h]
theorem Rp.SL.byte_at {w : World} {B : Nat} {xs : List UInt8} {A : Option Addr} {n c k : Nat} (h : rpByte.SL w B xs (.slice A n c)) (hk : k < xs.length) : ∃ b off, A = some ⟨b, off, none⟩ ∧ b < B ∧ w.cell? ⟨b, off + k, none⟩ = some (.int .u8 (xs[k].toNat : Nat)) := by
  obtain ⟨b, off, cs, hA, hb, hr, hcs⟩ := h.at_ (List.getElem?_eq_getElem hk)
  refine ⟨b, off, hA, hb, ?_⟩
  cases hr
  have := hcs 0 _ rfl
  simpa [rpByte] using this
theorem SL_grown {α : Type} {r : Rp α} {w w' : World} {p : Nat} {xs : List α} {v : Value} (h : r.SL w p xs v) (hg : w.grownBy w' (some p)) (hp : p ≤ w.heap.size) : r.SL w' p xs v :=
  h.keep fun q hq => World.cell?_of_block (hg.block _ (by omega) (by intro e; injection e with e; omega))
theorem grown_trans {a b c : World} {p : Nat} (h : a.grownBy b (some p)) (k : b.grownBy c (some p)) : a.grownBy c (some p) :=
  ⟨k.os.trans h.os, k.tape.trans h.tape, k.output.trans h.output, Nat.le_trans h.size k.size, fun i hi hne => (k.block i (Nat.lt_of_lt_of_le hi h.size) hne).trans (h.block i hi hne)⟩
theorem grown_refl (a : World) (row : Option Nat) : a.grownBy a row := ⟨rfl, rfl, rfl, Nat.le_refl _, fun _ _ _ => rfl⟩
theorem Rd.other {w w' : World} {p : Nat} {bs : List UInt8} {bad : Bool} (h : Rd w p bs bad) (hb : Below w.heap.size w w') : Rd w' p bs bad := by
  have hl := h.lt
  obtain ⟨v, T, h1, h2⟩ := h
  exact ⟨v, T, (hb.block p hl).trans h1, h2.keep fun q hq => hb.cell (by omega)⟩

theorem Byte_calls (p : Nat) (bs : List UInt8) (bad : Bool) (w : World) (h : Rd w p bs bad) (R : Ending → World → Prop)
    (hnil : bs = [] → ∀ w', w.grownBy w' (some p) → Rd w' p [] true → R (.returned (.int .i64 0)) w')
    (hcons : ∀ b r, bs = b :: r → ∀ w', w.grownBy w' (some p) → Rd w' p r bad → R (.returned (.int .i64 (b.toNat : Nat))) w') :
    Calls Tryz.prog 73 #[.pointer (some ⟨p, 0, none⟩)] w R := by
  have hlt := h.lt
  obtain ⟨v, T, hb, hs⟩ := h
  obtain ⟨c0, c1, z0, z1⟩ := cells_of_block hb
  obtain ⟨A, c, rfl, hm, hcap, hs⟩ := hs.cases_
  have Hb := Lib.hid hb
  have Hnil := Lib.hid hnil
  have Hcons := Lib.hid hcons
  clear hb hnil hcons
  cases bs with
  | nil =>
    have Hn := Lib.hid (Hnil.out rfl)
    clear Hnil Hcons
    simp only [List.length_nil] at *
    go_enter Tryz.func73, Tryz.ntmps73
    go_wp2
    refine Hn.out _ (grown_setCell w ⟨p, 1, none⟩ _) ⟨_, T, by rw [block_set Hb.out]; rfl, SL_grown hs (grown_setCell w ⟨p, 1, none⟩ _) (by omega)⟩
  | cons b r =>
    obtain ⟨g, off, rfl, hg, q0⟩ := hs.byte_at (k := 0) (by simp)
    have hn : (((b :: r).length : Int) == 0) = false := by rw [beq_eq_false_iff_ne]; simp only [List.length_cons]; omega
    have i0 : (0 : Int) < ((b :: r).length : Int) := by simp only [List.length_cons]; omega
    have i1 : (1 : Int) ≤ ((b :: r).length : Int) := by simp only [List.length_cons]; omega
    have i2 : ((b :: r).length : Int) ≤ (c : Int) := by omega
    simp only [List.getElem_cons_zero, Nat.add_zero] at q0
    have Hs := Lib.hid hs
    have Hc := Lib.hid (Hcons.out b r rfl)
    have hwr : wrap64 ((b.toNat : Nat) : Int) = (b.toNat : Nat) := by have := b.toNat_lt; unfold wrap64; omega
    clear hs Hnil Hcons
    go_enter Tryz.func73, Tryz.ntmps73
    go_wp2
    all_goals
      refine Hc.out _ (grown_setCell w ⟨p, 0, none⟩ _) ⟨_, T, by rw [block_set Hb.out]; rfl, SL_grown ?_ (grown_setCell w ⟨p, 0, none⟩ _) (by omega)⟩
    · obtain rfl : c = 1 := by assumption
      have := Hs.out.drop_ (k := 1) (by simp) off (by intro h; omega)
      simpa using this
    · have := Hs.out.drop_ (k := 1) (by simp) (off + 1) (by intro h; rfl)
      simpa using this
end Go.Proofs.YtcakodemngchpaaGreatDoor

/- The document's answer: which fields an Op speaks of. -/
namespace Go.Proofs.YtcakodemngchpaaGreatDoor
open Go.RowKit
set_option linter.unusedSimpArgs false
set_option linter.unusedVariables false

def hasB (s : ByteArray) (c : UInt8) : Nat → Nat → Bool
  | 0, _ => false
  | m + 1, i => (s.get! i == c) || hasB s c m (i + 1)
theorem hasB_step {s : ByteArray} {c : UInt8} {k : Nat} (h : k < s.size) : hasB s c (s.size - k) k = ((s.get! k == c) || hasB s c (s.size - (k + 1)) (k + 1)) := by
  rw [show s.size - k = (s.size - (k + 1)) + 1 from by omega, hasB]

theorem byte_get {s : ByteArray} {k : Nat} (h : k < s.size) : s[k] = s.get! k := by
  show s.data[k] = s.data[k]!
  rw [getElem!_pos s.data k h]
theorem byte_eq (a b : UInt8) : (((a.toNat : Nat) : Int) == ((b.toNat : Nat) : Int)) = (a == b) := by
  by_cases h : a = b
  · subst h; simp
  · have : a.toNat ≠ b.toNat := fun e => h (UInt8.toNat_inj.1 e)
    rw [beq_false_of_ne h, beq_false_of_ne (by omega)]

set_option maxHeartbeats 400000 in
theorem Has_calls (s : ByteArray) (c : UInt8) (hs : s.size ≤ 100) (w : World) (R : Ending → World → Prop) (hR : R (.returned (.bool (hasB s c s.size 0))) w) :
    Calls Tryz.prog 67 #[.string s, .int .u8 c.toNat] w R := by
  have HR := Lib.hid hR
  clear hR
  go_enter Tryz.func67, Tryz.ntmps67
  go_wp2
  go_loopg [5] s.size (fun g i wr => ∃ k : Nat, k ≤ s.size ∧ g = s.size - k ∧ i = .int .i64 k ∧ hasB s c (s.size - k) k = hasB s c s.size 0 ∧ wr = w)
  case atStart => exact ⟨0, Nat.zero_le _, rfl, rfl, rfl, rfl⟩
  case round =>
    obtain ⟨k, hk, rfl, rfl, ht, rfl⟩ := hrel
    have Ht := Lib.hid ht
    clear ht
    by_cases hlt : k < s.size
    · have i1 : (0 : Int) ≤ (k : Int) := Int.natCast_nonneg _
      have i2 : (k : Int) < (s.size : Int) := by omega
      have Hs := Lib.hid (hasB_step (c := c) hlt)
      rw [← byte_get hlt] at Hs
      cases hx : (s[k] == c)
      · have hb : (((s[k].toNat : Nat) : Int) == ((c.toNat : Nat) : Int)) = false := (byte_eq _ _).trans hx
        rw [hx, Bool.false_or] at Hs
        clear hx
        go_wp2
        go_roundg (s.size - (k + 1))
        case measure => omega
        case rel => exact ⟨k + 1, by omega, rfl, by go_num, by rw [← Ht.out, Hs.out], rfl⟩
      · have hb : (((s[k].toNat : Nat) : Int) == ((c.toNat : Nat) : Int)) = true := (byte_eq _ _).trans hx
        rw [hx, Bool.true_or] at Hs
        rw [← Ht.out, Hs.out] at HR
        clear hx
        go_wp2
        exact HR.out
    · obtain rfl : k = s.size := by omega
      rw [Nat.sub_self, hasB] at Ht
      rw [← Ht.out] at HR
      go_wp2
      exact HR.out

def fieldsTab : List ByteArray :=
  [⟨#[63]⟩, ⟨#[100, 110]⟩, ⟨#[100, 97]⟩, ⟨#[100, 97]⟩, ⟨#[100, 97]⟩] ++ List.replicate 14 ⟨#[100, 97, 98]⟩ ++ List.replicate 14 ⟨#[100, 97, 110]⟩ ++ [⟨#[100, 97, 110]⟩, ⟨#[97, 98, 110]⟩, ⟨#[100, 119]⟩, ⟨#[97, 119]⟩, ⟨#[116]⟩, ⟨#[97, 116]⟩, ⟨#[97, 116]⟩] ++ List.replicate 4 ⟨#[97, 98, 116]⟩ ++ [⟨#[114]⟩, ⟨#[]⟩, ⟨#[100]⟩, ⟨#[97]⟩]
def fieldsOf (op : Int) : ByteArray := if 1 ≤ op ∧ op ≤ 47 then fieldsTab.getD op.toNat ⟨#[63]⟩ else ⟨#[63]⟩
theorem fields_mid1 (k : Nat) (h : 5 ≤ k) (h' : k ≤ 18) : fieldsTab.getD k ⟨#[63]⟩ = ⟨#[100, 97, 98]⟩ := by
  have key : ∀ k : Nat, k < 48 → 5 ≤ k → k ≤ 18 → fieldsTab.getD k ⟨#[63]⟩ = ⟨#[100, 97, 98]⟩ := by decide
  exact key k (by omega) h h'
theorem fields_mid2 (k : Nat) (h : 19 ≤ k) (h' : k ≤ 32) : fieldsTab.getD k ⟨#[63]⟩ = ⟨#[100, 97, 110]⟩ := by
  have key : ∀ k : Nat, k < 48 → 19 ≤ k → k ≤ 32 → fieldsTab.getD k ⟨#[63]⟩ = ⟨#[100, 97, 110]⟩ := by decide
  exact key k (by omega) h h'
theorem fields_mid3 (k : Nat) (h : 40 ≤ k) (h' : k ≤ 43) : fieldsTab.getD k ⟨#[63]⟩ = ⟨#[97, 98, 116]⟩ := by
  have key : ∀ k : Nat, k < 48 → 40 ≤ k → k ≤ 43 → fieldsTab.getD k ⟨#[63]⟩ = ⟨#[97, 98, 116]⟩ := by decide
  exact key k (by omega) h h'

set_option maxRecDepth 100000 in
set_option maxHeartbeats 1000000 in
theorem Fields_calls (op : Int) (w : World) (R : Ending → World → Prop) (hR : ∀ w', Below w.heap.size w w' → R (.returned (.string (fieldsOf op))) w') :
    Calls Tryz.prog 66 #[.int .i64 op] w R := by
  by_cases h1 : op < 1
  · have HR : Hid (∀ w', Below w.heap.size w w' → R (.returned (.string ⟨#[63]⟩)) w') := by
      rw [show fieldsOf op = ⟨#[63]⟩ from by rw [fieldsOf, if_neg (by omega)]] at hR
      exact hR
    clear hR
    go_enter Tryz.func66, Tryz.ntmps66
    go_wp2
    exact HR.out _ bl0
  by_cases h2 : 47 < op
  · have HR : Hid (∀ w', Below w.heap.size w w' → R (.returned (.string ⟨#[63]⟩)) w') := by
      rw [show fieldsOf op = ⟨#[63]⟩ from by rw [fieldsOf, if_neg (by omega)]] at hR
      exact hR
    clear hR
    have h3 : 1 ≤ op := by omega
    go_enter Tryz.func66, Tryz.ntmps66
    go_wp2
    exact HR.out _ bl0
  obtain ⟨k, rfl⟩ : ∃ k : Nat, op = (k : Int) := ⟨op.toNat, by omega⟩
  have he : fieldsOf (k : Int) = fieldsTab.getD k ⟨#[63]⟩ := by rw [fieldsOf, if_pos (by omega)]; rfl
  rw [he] at hR
  clear he
  by_cases hc1 : 5 ≤ (k : Int) ∧ (k : Int) ≤ 18
  · have HR : Hid (∀ w', Below w.heap.size w w' → R (.returned (.string ⟨#[100, 97, 98]⟩)) w') := by
      rw [fields_mid1 k (by omega) (by omega)] at hR
      exact hR
    clear hR
    have g1 : 5 ≤ (k : Int) := hc1.1
    have g2 : (k : Int) ≤ 18 := hc1.2
    clear hc1
    go_enter Tryz.func66, Tryz.ntmps66
    go_wp2
    exact HR.out _ bl0
  by_cases hc2 : 19 ≤ (k : Int) ∧ (k : Int) ≤ 32
  · have HR : Hid (∀ w', Below w.heap.size w w' → R (.returned (.string ⟨#[100, 97, 110]⟩)) w') := by
      rw [fields_mid2 k (by omega) (by omega)] at hR
      exact hR
    clear hR
    have g1 : 19 ≤ (k : Int) := hc2.1
    have g2 : (k : Int) ≤ 32 := hc2.2
    clear hc2
    have q1 : ¬ ((k : Int) ≤ 18) := by omega
    have q4 : 5 ≤ (k : Int) := by omega
    go_enter Tryz.func66, Tryz.ntmps66
    go_wp2
    exact HR.out _ bl0
  by_cases hc3 : 40 ≤ (k : Int) ∧ (k : Int) ≤ 43
  · have HR : Hid (∀ w', Below w.heap.size w w' → R (.returned (.string ⟨#[97, 98, 116]⟩)) w') := by
      rw [fields_mid3 k (by omega) (by omega)] at hR
      exact hR
    clear hR
    have g1 : 40 ≤ (k : Int) := hc3.1
    have g2 : (k : Int) ≤ 43 := hc3.2
    clear hc3
    have q1 : ¬ ((k : Int) ≤ 18) := by omega
    have q4 : 5 ≤ (k : Int) := by omega
    have q2 : ¬ ((k : Int) ≤ 32) := by omega
    have q5 : 19 ≤ (k : Int) := by omega
    go_enter Tryz.func66, Tryz.ntmps66
    go_wp2
    exact HR.out _ bl0
  have hk : k = 1 ∨ k = 2 ∨ k = 3 ∨ k = 4 ∨ k = 33 ∨ k = 34 ∨ k = 35 ∨ k = 36 ∨ k = 37 ∨ k = 38 ∨ k = 39 ∨ k = 44 ∨ k = 45 ∨ k = 46 ∨ k = 47 := by omega
  have hl : ([.string ⟨#[63]⟩, .string ⟨#[100, 110]⟩, .string ⟨#[100, 97]⟩, .string ⟨#[100, 97]⟩, .string ⟨#[100, 97]⟩, .string ⟨#[]⟩, .string ⟨#[]⟩, .string ⟨#[]⟩, .string ⟨#[]⟩, .string ⟨#[]⟩, .string ⟨#[]⟩, .string ⟨#[]⟩, .string ⟨#[]⟩, .string ⟨#[]⟩, .string ⟨#[]⟩, .string ⟨#[]⟩, .string ⟨#[]⟩, .string ⟨#[]⟩, .string ⟨#[]⟩, .string ⟨#[]⟩, .string ⟨#[]⟩, .string ⟨#[]⟩, .string ⟨#[]⟩, .string ⟨#[]⟩, .string ⟨#[]⟩, .string ⟨#[]⟩, .string ⟨#[]⟩, .string ⟨#[]⟩, .string ⟨#[]⟩, .string ⟨#[]⟩, .string ⟨#[]⟩, .string ⟨#[]⟩, .string ⟨#[]⟩, .string ⟨#[100, 97, 110]⟩, .string ⟨#[97, 98, 110]⟩, .string ⟨#[100, 119]⟩, .string ⟨#[97, 119]⟩, .string ⟨#[116]⟩, .string ⟨#[97, 116]⟩, .string ⟨#[97, 116]⟩, .string ⟨#[]⟩, .string ⟨#[]⟩, .string ⟨#[]⟩, .string ⟨#[]⟩, .string ⟨#[114]⟩, .string ⟨#[]⟩, .string ⟨#[100]⟩, .string ⟨#[97]⟩] : List Value)[k]? = some (.string (fieldsTab.getD k ⟨#[63]⟩)) := by
    rcases hk with rfl | rfl | rfl | rfl | rfl | rfl | rfl | rfl | rfl | rfl | rfl | rfl | rfl | rfl | rfl <;> rfl
  have g1 : (k : Int) < 5 ∨ (32 < (k : Int) ∧ (k : Int) < 40) ∨ 43 < (k : Int) := by omega
  have HR := Lib.hid hR
  have i0 : (0 : Int) ≤ (k : Int) := Int.natCast_nonneg _
  have i1 : (k : Int) < 48 := by omega
  clear hR hc1 hc2 hc3 hk
  generalize fieldsTab.getD k ⟨#[63]⟩ = s at *
  rcases g1 with g1 | ⟨g1, g2⟩ | g1
  · have q1 : ¬ (5 ≤ (k : Int)) := by omega
    have q2 : ¬ (19 ≤ (k : Int)) := by omega
    have q3 : ¬ (40 ≤ (k : Int)) := by omega
    go_enter Tryz.func66, Tryz.ntmps66
    go_wp2
    exact HR.out _ bl0
  · have q1 : ¬ ((k : Int) ≤ 18) := by omega
    have q2 : ¬ ((k : Int) ≤ 32) := by omega
    have q3 : ¬ (40 ≤ (k : Int)) := by omega
    have q4 : 5 ≤ (k : Int) := by omega
    have q5 : 19 ≤ (k : Int) := by omega
    go_enter Tryz.func66, Tryz.ntmps66
    go_wp2
    exact HR.out _ bl0
  · have q1 : ¬ ((k : Int) ≤ 18) := by omega
    have q2 : ¬ ((k : Int) ≤ 32) := by omega
    have q3 : ¬ ((k : Int) ≤ 43) := by omega
    have q4 : 5 ≤ (k : Int) := by omega
    have q5 : 19 ≤ (k : Int) := by omega
    have q6 : 40 ≤ (k : Int) := by omega
    go_enter Tryz.func66, Tryz.ntmps66
    go_wp2
    exact HR.out _ bl0
end Go.Proofs.YtcakodemngchpaaGreatDoor

/- math/bits.Len at what is less than 128. -/
namespace Go.Proofs.YtcakodemngchpaaGreatDoor
open Go.RowKit
set_option linter.unusedSimpArgs false
set_option linter.unusedVariables false

def len8 : ByteArray := ⟨#[0, 1, 2, 2, 3, 3, 3, 3, 4, 4, 4, 4, 4, 4, 4, 4, 5, 5, 5, 5, 5, 5, 5, 5, 5, 5, 5, 5, 5, 5, 5, 5, 6, 6, 6, 6, 6, 6, 6, 6, 6, 6, 6, 6, 6, 6, 6, 6, 6, 6, 6, 6, 6, 6, 6, 6, 6, 6, 6, 6, 6, 6, 6, 6, 7, 7, 7, 7, 7, 7, 7, 7, 7, 7, 7, 7, 7, 7, 7, 7, 7, 7, 7, 7, 7, 7, 7, 7, 7, 7, 7, 7, 7, 7, 7, 7, 7, 7, 7, 7, 7, 7, 7, 7, 7, 7, 7, 7, 7, 7, 7, 7, 7, 7, 7, 7, 7, 7, 7, 7, 7, 7, 7, 7, 7, 7, 7, 7, 8, 8, 8, 8, 8, 8, 8, 8, 8, 8, 8, 8, 8, 8, 8, 8, 8, 8, 8, 8, 8, 8, 8, 8, 8, 8, 8, 8, 8, 8, 8, 8, 8, 8, 8, 8, 8, 8, 8, 8, 8, 8, 8, 8, 8, 8, 8, 8, 8, 8, 8, 8, 8, 8, 8, 8, 8, 8, 8, 8, 8, 8, 8, 8, 8, 8, 8, 8, 8, 8, 8, 8, 8, 8, 8, 8, 8, 8, 8, 8, 8, 8, 8, 8, 8, 8, 8, 8, 8, 8, 8, 8, 8, 8, 8, 8, 8, 8, 8, 8, 8, 8, 8, 8, 8, 8, 8, 8, 8, 8, 8, 8, 8, 8, 8, 8, 8, 8, 8, 8, 8, 8, 8, 8, 8, 8, 8, 8]⟩
theorem len8_ok (x : Nat) (hx : x < 128) (h : x < len8.size) : (len8[x]).toNat ≤ 7 ∧ (2 ≤ (len8[x]).toNat ↔ 2 ≤ x) := by
  have key : ∀ x : Nat, x < 128 → (len8.get! x).toNat ≤ 7 ∧ (2 ≤ (len8.get! x).toNat ↔ 2 ≤ x) := by decide +kernel
  rw [byte_get h]
  exact key x hx

set_option maxRecDepth 100000 in
set_option maxHeartbeats 1000000 in
theorem Len64_calls (x : Nat) (hx : x < 128) (w : World) (R : Ending → World → Prop) (hR : ∀ n : Int, 0 ≤ n → n ≤ 7 → (2 ≤ n ↔ 2 ≤ x) → R (.returned (.int .i64 n)) w) :
    Calls Tryz.prog 101 #[.int .u64 (x : Int)] w R := by
  have HR := Lib.hid hR
  have h1 : ¬ ((4294967296 : Int) ≤ (x : Int)) := by omega
  have h2 : ¬ ((65536 : Int) ≤ (x : Int)) := by omega
  have h3 : ¬ ((256 : Int) ≤ (x : Int)) := by omega
  have h4 : (0 : Int) ≤ (x : Int) := Int.natCast_nonneg _
  have h5 : (x : Int) < 256 := by omega
  clear hR
  go_enter Tryz.func101, Tryz.ntmps101
  go_wp2
  have hs : x < len8.size := by show x < 256; omega
  show R (.returned (.int .i64 (wrap64 (wrap64 ((len8[x]).toNat : Int))))) w
  obtain ⟨k1, k2⟩ := len8_ok x hx hs
  generalize (len8[x]).toNat = t at *
  rw [show wrap64 (wrap64 (t : Int)) = (t : Int) from by
    have : wrap64 (t : Int) = (t : Int) := by unfold wrap64; omega
    rw [this, this]]
  exact HR.out _ (by omega) (by omega) (by omega)

theorem Len_calls (x : Nat) (hx : x < 128) (w : World) (R : Ending → World → Prop) (hR : ∀ n : Int, 0 ≤ n → n ≤ 7 → (2 ≤ n ↔ 2 ≤ x) → R (.returned (.int .i64 n)) w) :
    Calls Tryz.prog 74 #[.int .u64 (x : Int)] w R := by
  have HR := Lib.hid hR
  clear hR
  go_enter Tryz.func74, Tryz.ntmps74
  go_wp2_with fail
  refine Len64_calls x hx _ _ (fun n n0 n1 n2 => ?_)
  have Hf := Lib.hid (HR.out n n0 n1 n2)
  clear HR n2
  go_wp2
  exact Hf.out
end Go.Proofs.YtcakodemngchpaaGreatDoor

/- The reader's numbers. -/
namespace Go.Proofs.YtcakodemngchpaaGreatDoor
open Go.RowKit
set_option linter.unusedSimpArgs false
set_option linter.unusedVariables false

theorem xor_zero (a : Nat) (h : a < 9223372036854775808) : bits .xor .i64 (a : Int) 0 = a := by
  have e : bits .xor .i64 (a : Int) 0 = IntKind.i64.wrap ((BitVec.ofInt 64 (a : Int) ^^^ BitVec.ofInt 64 0).toNat : Nat) := rfl
  rw [e, show BitVec.ofInt 64 0 = 0#64 from rfl, BitVec.xor_zero, BitVec.ofInt_natCast, BitVec.toNat_ofNat, IntKind.wrap_i64]
  omega
theorem xor_ones (a : Nat) (h : a < 9223372036854775808) : bits .xor .i64 (a : Int) (-1) = -(a : Int) - 1 := by
  have e : bits .xor .i64 (a : Int) (-1) = IntKind.i64.wrap ((BitVec.ofInt 64 (a : Int) ^^^ BitVec.ofInt 64 (-1)).toNat : Nat) := rfl
  rw [e, show BitVec.ofInt 64 (-1) = BitVec.allOnes 64 from by decide, BitVec.xor_allOnes, BitVec.toNat_not, BitVec.ofInt_natCast, BitVec.toNat_ofNat, IntKind.wrap_i64]
  omega
theorem and_one (n : Nat) (h : n < 18446744073709551616) : bits .and .u64 (n : Int) 1 = ((n % 2 : Nat) : Int) := by
  have := bits_mask .u64 64 (by decide) (fun n h0 h1 => by rw [IntKind.wrap_u64]; omega) 1 (by decide) (n : Int) (by omega) (by omega)
  simpa using this

set_option maxHeartbeats 1000000 in
theorem Unfold_calls (n : Nat) (hn : n < 18446744073709551616) (w : World) (R : Ending → World → Prop) (hR : R (.returned (.int .i64 (unfoldN n))) w) :
    Calls Tryz.prog 107 #[.int .u64 (n : Int)] w R := by
  have HR := Lib.hid hR
  clear hR
  go_enter Tryz.func107, Tryz.ntmps107
  go_wp2
  show R (.returned (.int .i64 (bits .xor .i64 ((n : Int) / 2) (wrap64 (-wrap64 (bits .and .u64 (n : Int) 1)))))) w
  rw [and_one n hn, show ((n : Int) / 2) = ((n / 2 : Nat) : Int) by omega]
  have HR := HR.out
  unfold unfoldN at HR
  rcases Nat.mod_two_eq_zero_or_one n with hm | hm
  · rw [if_neg (by omega)] at HR
    rw [hm, show wrap64 (-wrap64 ((0 : Nat) : Int)) = 0 from by unfold wrap64; simp, xor_zero _ (by omega)]
    exact HR
  · rw [if_pos hm] at HR
    rw [hm, show wrap64 (-wrap64 ((1 : Nat) : Int)) = -1 from by unfold wrap64; simp, xor_ones _ (by omega)]
    exact HR
end Go.Proofs.YtcakodemngchpaaGreatDoor

/- The reader's numbers. -/
namespace Go.Proofs.YtcakodemngchpaaGreatDoor
open Go.RowKit
set_option linter.unusedSimpArgs false
set_option linter.unusedVariables false

theorem or_low {acc x s : Nat} (h : acc < 2 ^ s) (hx : x * 2 ^ s < 18446744073709551616) (ha : acc < 18446744073709551616) : bits .or .u64 (acc : Int) (IntKind.u64.wrap ((x : Int) * 2 ^ s)) = ((acc + x * 2 ^ s : Nat) : Int) := by
  have e : ((x : Int) * 2 ^ s) = ((x * 2 ^ s : Nat) : Int) := by push_cast; rfl
  rw [e, IntKind.wrap_u64, show ((x * 2 ^ s : Nat) : Int) % 18446744073709551616 = ((x * 2 ^ s : Nat) : Int) from by omega, bits_or_u64_nat _ _ ha hx, Nat.or_comm, Nat.mul_comm x, ← Nat.two_pow_add_eq_or_of_lt h, Nat.add_comm]

theorem numL_step {i acc : Nat} {b : UInt8} {r : List UInt8} (hi : i < 10) : numL (10 - i) i acc (b :: r) = if (i = 9 ∧ 1 < b.toNat) ∨ (0 < i ∧ b.toNat = 0) then none else if b.toNat < 128 then some (acc + b.toNat * 2 ^ (7 * i), r) else numL (10 - (i + 1)) (i + 1) (acc + (b.toNat - 128) * 2 ^ (7 * i)) r := by
  rw [show 10 - i = (10 - (i + 1)) + 1 from by omega, numL]
theorem numL_nil {i acc : Nat} (hi : i < 10) : numL (10 - i) i acc [] = none := by
  rw [show 10 - i = (10 - (i + 1)) + 1 from by omega, numL]
theorem pow_fits {x i : Nat} (hi : i < 10) (hx : x < 128) (h9 : i = 9 → x < 2) : x * 2 ^ (7 * i) < 18446744073709551616 := by
  by_cases h : i = 9
  · subst h
    have := h9 rfl
    simp
    omega
  · have h1 : 2 ^ (7 * i) ≤ 2 ^ 56 := Nat.pow_le_pow_right (by decide) (by omega)
    have h2 : x * 2 ^ (7 * i) ≤ 127 * 2 ^ 56 := Nat.mul_le_mul (by omega) h1
    omega

/-- What a call of Byte leaves. -/
def byteS : List UInt8 → Bool → Nat × List UInt8 × Bool
  | [], _ => (0, [], true)
  | b :: r, bad => (b.toNat, r, bad)
theorem Byte_any (p : Nat) (bs : List UInt8) (bad : Bool) (w : World) (h : Rd w p bs bad) (R : Ending → World → Prop)
    (hR : ∀ (x : Nat) (r : List UInt8) (q : Bool), byteS bs bad = (x, r, q) → x < 256 → ∀ w', w.grownBy w' (some p) → Rd w' p r q → R (.returned (.int .i64 (x : Int))) w') :
    Calls Tryz.prog 73 #[.pointer (some ⟨p, 0, none⟩)] w R :=
  Byte_calls p bs bad w h R (fun e w' hg hr => by subst e; exact hR 0 [] true rfl (by omega) w' hg hr) (fun b r e w' hg hr => by subst e; exact hR b.toNat r bad rfl b.toNat_lt w' hg hr)

def stepN (i acc x : Nat) (r : List UInt8) : Option (Nat × List UInt8) :=
  if (i = 9 ∧ 1 < x) ∨ (0 < i ∧ x = 0) then none else if x < 128 then some (acc + x * 2 ^ (7 * i), r) else numL (10 - (i + 1)) (i + 1) (acc + (x - 128) * 2 ^ (7 * i)) r
theorem byte_step {i acc x : Nat} {l r : List UInt8} {q q1 bad : Bool} {T : Option (Nat × List UInt8)} (hi : i < 10) (h : byteS l q = (x, r, q1)) (h0 : q = false → bad = false ∧ numL (10 - i) i acc l = T) (h1 : q = true → bad = true ∨ T = none) :
    (q1 = false → bad = false ∧ stepN i acc x r = T) ∧ (q1 = true → bad = true ∨ T = none) := by
  cases l with
  | nil =>
    simp only [byteS, Prod.mk.injEq] at h
    obtain ⟨rfl, rfl, rfl⟩ := h
    refine ⟨fun h => (Bool.noConfusion h), fun _ => ?_⟩
    cases q
    · right
      rw [← (h0 rfl).2, numL_nil hi]
    · exact h1 rfl
  | cons b l =>
    simp only [byteS, Prod.mk.injEq] at h
    obtain ⟨rfl, rfl, rfl⟩ := h
    refine ⟨fun h => ?_, h1⟩
    have := h0 h
    rw [numL_step hi] at this
    exact this
theorem acc_fits {i acc x : Nat} (hi : i < 10) (ha : acc < 2 ^ (7 * i)) (hx : x < 128) (h9 : i = 9 → x < 2) : acc + x * 2 ^ (7 * i) < 2 ^ (7 * (i + 1)) ∧ acc + x * 2 ^ (7 * i) < 18446744073709551616 := by
  have e : 2 ^ (7 * (i + 1)) = 128 * 2 ^ (7 * i) := by rw [Nat.mul_add, Nat.pow_add, Nat.mul_comm]
  have h1 : x * 2 ^ (7 * i) ≤ 127 * 2 ^ (7 * i) := Nat.mul_le_mul_right _ (by omega)
  refine ⟨by omega, ?_⟩
  by_cases h : i = 9
  · subst h
    have := h9 rfl
    simp at ha ⊢
    omega
  · have h2 : 2 ^ (7 * i) ≤ 2 ^ 56 := Nat.pow_le_pow_right (by decide) (by omega)
    omega

set_option maxRecDepth 100000 in
set_option maxHeartbeats 4000000 in
theorem Number_calls (p : Nat) (bs : List UInt8) (bad : Bool) (w : World) (h : Rd w p bs bad) (R : Ending → World → Prop)
    (hgood : ∀ n r, n < 18446744073709551616 → bad = false → numberL bs = some (n, r) → ∀ w', w.grownBy w' (some p) → Rd w' p r false → R (.returned (.int .u64 (n : Nat))) w')
    (hbad : (bad = true ∨ numberL bs = none) → ∀ (w' : World) (n : Nat) r, n < 18446744073709551616 → w.grownBy w' (some p) → Rd w' p r true → R (.returned (.int .u64 (n : Nat))) w') :
    Calls Tryz.prog 41 #[.pointer (some ⟨p, 0, none⟩)] w R := by
  have Hgood := Lib.hid hgood
  have Hbad := Lib.hid hbad
  have Hrd := Lib.hid h
  clear hgood hbad h
  go_enter Tryz.func41, Tryz.ntmps41
  go_wp2
  go_loopg [3, 4, 5] 10 (fun g n s b wr => ∃ (i acc : Nat) (l : List UInt8) (q : Bool), i ≤ 10 ∧ g = 10 - i ∧ n = .int .u64 (acc : Int) ∧ s = .int .i64 ((7 * i : Nat) : Int) ∧ acc < 2 ^ (7 * i) ∧ acc < 18446744073709551616 ∧ Rd wr p l q ∧ w.grownBy wr (some p) ∧ (q = false → bad = false ∧ numL (10 - i) i acc l = numberL bs) ∧ (q = true → bad = true ∨ numberL bs = none))
  case atStart => exact ⟨0, 0, bs, bad, by omega, rfl, rfl, rfl, by omega, by omega, Hrd.out, grown_refl _ _, fun h => ⟨h, rfl⟩, fun h => .inl h⟩
  case round =>
    obtain ⟨i, acc, l, q, hi, rfl, rfl, rfl, ha, ha2, hrd, hgr, hq0, hq1⟩ := hrel
    have Hq0 := Lib.hid hq0
    have Hq1 := Lib.hid hq1
    have Hgr := Lib.hid hgr
    have Ha := Lib.hid ha
    clear hq0 hq1 hgr ha Hrd
    by_cases hlt : i < 10
    · have i1 : ((7 * i : Nat) : Int) < 70 := by omega
      go_wp2_with fail
      refine Byte_any p l q _ hrd _ (fun x r q1 hbs hx w1 hg1 hr1 => ?_)
      obtain ⟨h0, h1⟩ := byte_step hlt hbs Hq0.out Hq1.out
      have H0 := Lib.hid h0
      have H1 := Lib.hid h1
      have Hg1 := Lib.hid (grown_trans Hgr.out hg1)
      clear Hq0 Hq1 Hgr hrd hbs h0 h1 hg1
      -- Bad is set, whatever it was
      obtain ⟨vv, TT, hbk, hss⟩ := id hr1
      have hlp : p < w1.heap.size := hr1.lt
      have Hset : Hid (∀ T, (q1 = true ∨ stepN i acc x r = none) → T = w1.setCell ⟨p, 1, none⟩ (.bool true) → R (.returned (.int .u64 0)) T) := Lib.hid fun T hc e => by
        subst e
        refine Hbad.out ?_ _ 0 r (by omega) (grown_trans Hg1.out (grown_setCell w1 ⟨p, 1, none⟩ _)) ⟨vv, TT, by rw [block_set hbk]; rfl, SL_grown hss (grown_setCell w1 ⟨p, 1, none⟩ _) (by omega)⟩
        cases q1
        · right
          rw [← (H0.out rfl).2]
          exact hc.resolve_left (by simp)
        · exact H1.out rfl
      obtain ⟨c0, c1, z0, z1⟩ := cells_of_block hbk
      have Hret : Hid (∀ n : Int, x < 128 → ¬ ((i = 9 ∧ 1 < x) ∨ (0 < i ∧ x = 0)) → n = ((acc + x % 128 * 2 ^ (7 * i) : Nat) : Int) → acc + x % 128 * 2 ^ (7 * i) < 18446744073709551616 → R (.returned (.int .u64 n)) w1) := Lib.hid fun n hx hc e hf => by
        subst e
        rw [Nat.mod_eq_of_lt hx] at hf ⊢
        cases q1
        · refine Hgood.out _ r hf (H0.out rfl).1 ?_ _ Hg1.out hr1
          rw [← (H0.out rfl).2, stepN, if_neg hc, if_pos hx]
        · exact Hbad.out (H1.out rfl) _ _ r hf Hg1.out hr1
      have Hnext : Hid (¬ x < 128 → ¬ (0 < i ∧ x = 0) → (q1 = false → bad = false ∧ numL (10 - (i + 1)) (i + 1) (acc + x % 128 * 2 ^ (7 * i)) r = numberL bs)) := Lib.hid fun h1 h2 hq => by
        have h3 := H0.out hq
        rw [stepN] at h3
        refine ⟨h3.1, ?_⟩
        rw [← h3.2]
        by_cases h9 : i = 9
        · subst h9
          rw [if_pos (by omega)]
          rfl
        · rw [if_neg (by omega), if_neg h1, show x % 128 = x - 128 from by omega]
      have Hr1 := Lib.hid hr1
      clear hr1 hbk hss
      have hx0 : (0 : Int) ≤ (x : Int) := Int.natCast_nonneg _
      have hx1 : (x : Int) < 256 := by omega
      by_cases hb : 0 < i ∧ x = 0
      · have Hend := Lib.hid (fun T => Hset.out T (.inr (by rw [stepN, if_pos (.inr hb)])))
        obtain ⟨hb1, rfl⟩ := hb
        have j0 : (0 : Int) < ((7 * i : Nat) : Int) := by omega
        clear Hset Hret Hnext
        go_wp2
        exact Hend.out _ rfl
      have hm := bits_mask .i64 63 (by decide) (fun n h0 h1 => by rw [IntKind.wrap_i64]; omega) 7 (by decide) (x : Int) (by omega) (by omega)
      have hm' : bits .and .i64 (x : Int) 127 = ((x % 128 : Nat) : Int) := by simpa using hm
      clear hm
      by_cases h9 : i = 9 ∧ 2 ≤ x % 128
      · have Hend := Lib.hid (fun T => Hset.out T (.inr (by rw [stepN, if_pos (.inl (by omega))])))
        obtain ⟨rfl, h9⟩ := h9
        have hxn : ((x : Int) == 0) = false := by simp; omega
        clear Hset Hret Hnext
        go_wp2_with (first | (go_at_call 74; refine Len_calls (x % 128) (Nat.mod_lt _ (by decide)) _ _ (fun n n0 n1 n2 => ?_); have n3 : (2 : Int) ≤ n := n2.2 h9; clear n2; have n4 : (64 : Int) < 63 + n := by omega))
        all_goals exact Hend.out _ rfl
      obtain ⟨k1, k2⟩ := acc_fits (x := x % 128) hlt Ha.out (Nat.mod_lt _ (by decide)) (fun h => by omega)
      have K1 := Lib.hid k1
      have K2 := Lib.hid k2
      have hor := or_low (x := x % 128) (s := 7 * i) Ha.out (pow_fits hlt (Nat.mod_lt _ (by decide)) (fun h => by omega)) ha2
      rw [show ((x % 128 : Nat) : Int) = (x : Int) % 128 from by omega] at hor
      have Hor := Lib.hid hor
      have Hx2 := Lib.hid (show ∀ n : Int, n ≤ 7 → (2 ≤ n ↔ 2 ≤ x % 128) → ¬ (64 : Int) < ((7 * i : Nat) : Int) + n from fun n n1 n2 => by omega)
      have Hi := Lib.hid hlt
      have Hb := Lib.hid hb
      have H9 := Lib.hid h9
      have Hc : Hid (x < 128 → ¬ ((i = 9 ∧ 1 < x) ∨ (0 < i ∧ x = 0))) := Lib.hid (by omega)
      clear k1 k2 hb h9 hlt Hset hor
      by_cases hi0 : i = 0
      · subst hi0
        have hor := Hor.out
        rw [show IntKind.u64.wrap ((x : Int) % 128 * 2 ^ (7 * 0)) = (x : Int) % 128 from by rw [IntKind.wrap_u64]; simp; omega] at hor
        clear Hor
        have Hor := Lib.hid hor
        clear hor
        by_cases hx128 : x < 128
        · have hxi : (x : Int) < 128 := by omega
          have HR := Lib.hid (fun n => Hret.out n hx128 (Hc.out hx128))
          clear hx128 Hret Hnext
          go_wp2_with (first | (go_at_call 74; refine Len_calls (x % 128) (Nat.mod_lt _ (by decide)) _ _ (fun n n0 n1 n2 => ?_); have n3 := Hx2.out n n1 n2; clear n2; have n4 : ¬ (64 : Int) < n := by omega))
          all_goals exact HR.out _ Hor.out K2.out
        · have hxi : ¬ (x : Int) < 128 := by omega
          have HN := Lib.hid (Hnext.out hx128 (by omega))
          clear hx128 Hret Hnext
          go_wp2_with (first | (go_at_call 74; refine Len_calls (x % 128) (Nat.mod_lt _ (by decide)) _ _ (fun n n0 n1 n2 => ?_); have n3 := Hx2.out n n1 n2; clear n2; have n4 : ¬ (64 : Int) < n := by omega))
          all_goals
            go_roundg 9
            case measure => omega
            case rel => exact ⟨1, _, r, q1, by omega, rfl, by rw [← Hor.out], rfl, K1.out, K2.out, Hr1.out, Hg1.out, HN.out, H1.out⟩
      · have hgz : ((0 : Int) < ((7 * i : Nat) : Int)) := by omega
        have hxz : ((x : Int) == 0) = false := by have := Hb.out; simp; omega
        by_cases hx128 : x < 128
        · have hxi : (x : Int) < 128 := by omega
          have HR := Lib.hid (fun n => Hret.out n hx128 (Hc.out hx128))
          clear hx128 Hret Hnext
          go_wp2_with (first | (go_at_call 74; refine Len_calls (x % 128) (Nat.mod_lt _ (by decide)) _ _ (fun n n0 n1 n2 => ?_); have n3 := Hx2.out n n1 n2; clear n2))
          all_goals exact HR.out _ Hor.out K2.out
        · have hxi : ¬ (x : Int) < 128 := by omega
          have HN := Lib.hid (Hnext.out hx128 Hb.out)
          clear hx128 Hret Hnext
          go_wp2_with (first | (go_at_call 74; refine Len_calls (x % 128) (Nat.mod_lt _ (by decide)) _ _ (fun n n0 n1 n2 => ?_); have n3 := Hx2.out n n1 n2; clear n2))
          all_goals
            go_roundg (10 - (i + 1))
            case measure => have := Hi.out; omega
            case rel => exact ⟨i + 1, _, r, q1, Hi.out, rfl, by rw [← Hor.out], by go_num, K1.out, K2.out, Hr1.out, Hg1.out, HN.out, H1.out⟩
    · obtain rfl : i = 10 := by omega
      have hn : ∀ r, numL (10 - 10) 10 acc r = none := fun _ => rfl
      obtain ⟨vv, TT, hbk, hss⟩ := id hrd
      have hlp : p < wr.heap.size := hrd.lt
      obtain ⟨c0, c1, z0, z1⟩ := cells_of_block hbk
      have Hend : Hid (∀ T, T = wr.setCell ⟨p, 1, none⟩ (.bool true) → R (.returned (.int .u64 0)) T) := Lib.hid fun T e => by
        subst e
        refine Hbad.out ?_ _ 0 l (by omega) (grown_trans Hgr.out (grown_setCell wr ⟨p, 1, none⟩ _)) ⟨vv, TT, by rw [block_set hbk]; rfl, SL_grown hss (grown_setCell wr ⟨p, 1, none⟩ _) (by omega)⟩
        cases q
        · right
          rw [← (Hq0.out rfl).2]
          rfl
        · exact Hq1.out rfl
      clear hbk hss hn hrd
      go_wp2
      exact Hend.out _ rfl
end Go.Proofs.YtcakodemngchpaaGreatDoor

/- Which registers an instruction speaks of: pointers to its fields. -/
namespace Go.Proofs.YtcakodemngchpaaGreatDoor
open Go.RowKit
set_option linter.unusedSimpArgs false
set_option linter.unusedVariables false

def regOffs (s : Shape) : List Nat := (if s.d then [1] else []) ++ (if s.a then [2] else []) ++ (if s.b then [3] else [])
def ptrM (M : Nat) (k : Nat) : Value := .pointer (some ⟨M, k, none⟩)
theorem info_ptr : (Tryz.prog.info? 200).map (fun i => (i.zero, i.size, i.bytes)) = some (some (.pointer none), 1, 8) := by kernel_rfl
def regsTo (s : Shape) (k : Nat) : List Nat := (if s.d ∧ 0 < k then [1] else []) ++ (if s.a ∧ 1 < k then [2] else []) ++ (if s.b ∧ 2 < k then [3] else [])
def usedAt (s : Shape) (k : Nat) : Bool := if k = 0 then s.d else if k = 1 then s.a else s.b
theorem regsTo_step (s : Shape) (k : Nat) (h : k < 3) : regsTo s (k + 1) = regsTo s k ++ (if usedAt s k then [k + 1] else []) := by
  rcases (show k = 0 ∨ k = 1 ∨ k = 2 from by omega) with rfl | rfl | rfl <;> cases hd : s.d <;> cases ha : s.a <;> cases hb : s.b <;> simp [regsTo, usedAt, hd, ha, hb]
theorem regsTo_end (s : Shape) : regsTo s 3 = regOffs s := by simp [regsTo, regOffs]
theorem regsTo_len (s : Shape) (k : Nat) : (regsTo s k).length ≤ 3 := by
  unfold regsTo
  cases s.d <;> cases s.a <;> cases s.b <;> simp <;> (repeat' split) <;> simp

theorem idx3_0 (x y z : Value) (p q r : Value) (w : World) : (Instr.index 209 (.agg #[x, p, y, q, z, r]) (.int .i64 0)).run Tryz.prog w = .ok (.agg #[x, p]) w := by
  have h : Tryz.prog.underlying 209 = some (.array 3 208) := Tryz.underlying209
  simp [Instr.index, run_underlying h, asIntOf, go_sem]
theorem idx3_1 (x y z : Value) (p q r : Value) (w : World) : (Instr.index 209 (.agg #[x, p, y, q, z, r]) (.int .i64 1)).run Tryz.prog w = .ok (.agg #[y, q]) w := by
  have h : Tryz.prog.underlying 209 = some (.array 3 208) := Tryz.underlying209
  simp [Instr.index, run_underlying h, asIntOf, go_sem]
theorem idx3_2 (x y z : Value) (p q r : Value) (w : World) : (Instr.index 209 (.agg #[x, p, y, q, z, r]) (.int .i64 2)).run Tryz.prog w = .ok (.agg #[z, r]) w := by
  have h : Tryz.prog.underlying 209 = some (.array 3 208) := Tryz.underlying209
  simp [Instr.index, run_underlying h, asIntOf, go_sem]

set_option maxRecDepth 100000 in
set_option maxHeartbeats 4000000 in
theorem registers_calls (s : Shape) (M : Nat) (w : World) (hM : M < w.heap.size) (R : Ending → World → Prop)
    (hR : ∀ w' v, Below w.heap.size w w' → w'.ownsRow w.heap.size 200 1 v (regOffs s).length ((regOffs s).map (ptrM M)) → R (.returned v) w') :
    Calls Tryz.prog 114 #[.agg #[.bool s.d, .bool s.a, .bool s.b, .int .i64 s.n], .pointer (some ⟨M, 0, none⟩)] w R := by
  obtain ⟨i0, hi, hz0, hz1, hz2⟩ := info_parts info_ptr
  have HR := Lib.hid hR
  clear hR
  obtain ⟨sd, sa, sb, sn⟩ := s
  obtain ⟨S, hS⟩ : ∃ S : Shape, S = ⟨sd, sa, sb, sn⟩ := ⟨_, rfl⟩
  rw [← hS] at HR
  have HS := Lib.hid hS
  clear hS
  have ix0 := idx3_0
  have ix1 := idx3_1
  have ix2 := idx3_2
  cases sd <;> cases sa <;> cases sb
  all_goals
    go_enter Tryz.func114, Tryz.ntmps114
    go_wp2
    go_quiet (fail)
    go_wp2
    go_loopg [5, 27] 3 (fun g v i wr => ∃ k : Nat, k ≤ 3 ∧ g = 3 - k ∧ i = .int .i64 k ∧ wr.ownsRow w.heap.size 200 1 v (regsTo S k).length ((regsTo S k).map (ptrM M)) ∧ Below w.heap.size w wr)
    case atStart => exact ⟨0, by omega, rfl, rfl, by rw [show ∀ s, regsTo s 0 = [] from fun s => by simp [regsTo]]; exact World.ownsRow_nil _ _ _ _, bl0⟩
    case round =>
      obtain ⟨k, hk, rfl, rfl, hown, hbel⟩ := hrel
      have Hbel := Lib.hid hbel
      have hwz := hbel.size
      clear hbel
      rcases (show k = 0 ∨ k = 1 ∨ k = 2 ∨ k = 3 from by omega) with rfl | rfl | rfl | rfl
      · have Hst := Lib.hid (regsTo_step S 0 (by omega))
        have hle := regsTo_len S 0
        generalize regsTo S 0 = L at *
        cases hu : usedAt S 0
        · first
          | (rw [HS.out] at hu; simp [usedAt] at hu; done)
          | have e : regsTo S (0 + 1) = L := by rw [Hst.out, hu]; simp
            have E := Lib.hid e
            have Hown := Lib.hid hown
            clear e Hst hown hu
            go_wp2
            go_roundg (3 - (0 + 1))
            case measure => omega
            case rel => exact ⟨0 + 1, by omega, rfl, rfl, by rw [E.out]; exact Hown.out.alloc _, Hbel.out.alloc (by first | omega | (simp; done) | (simp; omega)) _⟩
        · first
          | (rw [HS.out] at hu; simp [usedAt] at hu; done)
          | have e : regsTo S (0 + 1) = L ++ [0 + 1] := by rw [Hst.out, hu]; simp
            have E := Lib.hid e
            clear e Hst hu
            obtain ⟨A5, c5, rfl⟩ := own_slice hown
            go_wp2_with (at_builtin; refine wpList_append_own _ rfl _ _ 197 rfl w.heap.size 200 i0 _ 1 8 Tryz.underlying197 hi hz0 hz1 hz2 rfl (by decide) (.slice A5 L.length c5) L.length (L.map (ptrM M)) rfl ((hown.alloc _).alloc _) ⟨wr.heap.size + 1, 0, none⟩ 1 1 [.pointer (some ⟨M, 0 + 1, none⟩)] rfl rfl ?_ ?_ ?_ ?_ ?_ ?_)
            any_goals first | (intro j u hj; match j, hj with | 0, hj => simp at hj; subst hj; simp [Addr.add]) | (simp [Value.oneCell']; done) | (unfold maxLen; omega) | omega | (simp; done) | (simp; omega)
            intro v' w2 hown1 hgrow _
            have hbel1 := ((Hbel.out.alloc hwz (Obj.cells #[.bool true, .pointer (some ⟨M, 0 + 1, none⟩)] 208)).alloc (by first | omega | (simp; done) | (simp; omega)) (Obj.cells #[.pointer (some ⟨M, 0 + 1, none⟩)] 200)).grown hgrow (by simp; omega) (fun k hk => (hown.lt k hk).1)
            have H1 := Lib.hid (And.intro hown1 hbel1)
            clear hown1 hbel1 hown hgrow
            go_wp2
            go_roundg (3 - (0 + 1))
            case measure => omega
            case rel => exact ⟨0 + 1, by omega, rfl, rfl, by rw [E.out]; simpa [ptrM] using H1.out.1, H1.out.2⟩
      · have Hst := Lib.hid (regsTo_step S 1 (by omega))
        have hle := regsTo_len S 1
        generalize regsTo S 1 = L at *
        cases hu : usedAt S 1
        · first
          | (rw [HS.out] at hu; simp [usedAt] at hu; done)
          | have e : regsTo S (1 + 1) = L := by rw [Hst.out, hu]; simp
            have E := Lib.hid e
            have Hown := Lib.hid hown
            clear e Hst hown hu
            go_wp2
            go_roundg (3 - (1 + 1))
            case measure => omega
            case rel => exact ⟨1 + 1, by omega, rfl, rfl, by rw [E.out]; exact Hown.out.alloc _, Hbel.out.alloc (by first | omega | (simp; done) | (simp; omega)) _⟩
        · first
          | (rw [HS.out] at hu; simp [usedAt] at hu; done)
          | have e : regsTo S (1 + 1) = L ++ [1 + 1] := by rw [Hst.out, hu]; simp
            have E := Lib.hid e
            clear e Hst hu
            obtain ⟨A5, c5, rfl⟩ := own_slice hown
            go_wp2_with (at_builtin; refine wpList_append_own _ rfl _ _ 197 rfl w.heap.size 200 i0 _ 1 8 Tryz.underlying197 hi hz0 hz1 hz2 rfl (by decide) (.slice A5 L.length c5) L.length (L.map (ptrM M)) rfl ((hown.alloc _).alloc _) ⟨wr.heap.size + 1, 0, none⟩ 1 1 [.pointer (some ⟨M, 1 + 1, none⟩)] rfl rfl ?_ ?_ ?_ ?_ ?_ ?_)
            any_goals first | (intro j u hj; match j, hj with | 0, hj => simp at hj; subst hj; simp [Addr.add]) | (simp [Value.oneCell']; done) | (unfold maxLen; omega) | omega | (simp; done) | (simp; omega)
            intro v' w2 hown1 hgrow _
            have hbel1 := ((Hbel.out.alloc hwz (Obj.cells #[.bool true, .pointer (some ⟨M, 1 + 1, none⟩)] 208)).alloc (by first | omega | (simp; done) | (simp; omega)) (Obj.cells #[.pointer (some ⟨M, 1 + 1, none⟩)] 200)).grown hgrow (by simp; omega) (fun k hk => (hown.lt k hk).1)
            have H1 := Lib.hid (And.intro hown1 hbel1)
            clear hown1 hbel1 hown hgrow
            go_wp2
            go_roundg (3 - (1 + 1))
            case measure => omega
            case rel => exact ⟨1 + 1, by omega, rfl, rfl, by rw [E.out]; simpa [ptrM] using H1.out.1, H1.out.2⟩
      · have Hst := Lib.hid (regsTo_step S 2 (by omega))
        have hle := regsTo_len S 2
        generalize regsTo S 2 = L at *
        cases hu : usedAt S 2
        · first
          | (rw [HS.out] at hu; simp [usedAt] at hu; done)
          | have e : regsTo S (2 + 1) = L := by rw [Hst.out, hu]; simp
            have E := Lib.hid e
            have Hown := Lib.hid hown
            clear e Hst hown hu
            go_wp2
            go_roundg (3 - (2 + 1))
            case measure => omega
            case rel => exact ⟨2 + 1, by omega, rfl, rfl, by rw [E.out]; exact Hown.out.alloc _, Hbel.out.alloc (by first | omega | (simp; done) | (simp; omega)) _⟩
        · first
          | (rw [HS.out] at hu; simp [usedAt] at hu; done)
          | have e : regsTo S (2 + 1) = L ++ [2 + 1] := by rw [Hst.out, hu]; simp
            have E := Lib.hid e
            clear e Hst hu
            obtain ⟨A5, c5, rfl⟩ := own_slice hown
            go_wp2_with (at_builtin; refine wpList_append_own _ rfl _ _ 197 rfl w.heap.size 200 i0 _ 1 8 Tryz.underlying197 hi hz0 hz1 hz2 rfl (by decide) (.slice A5 L.length c5) L.length (L.map (ptrM M)) rfl ((hown.alloc _).alloc _) ⟨wr.heap.size + 1, 0, none⟩ 1 1 [.pointer (some ⟨M, 2 + 1, none⟩)] rfl rfl ?_ ?_ ?_ ?_ ?_ ?_)
            any_goals first | (intro j u hj; match j, hj with | 0, hj => simp at hj; subst hj; simp [Addr.add]) | (simp [Value.oneCell']; done) | (unfold maxLen; omega) | omega | (simp; done) | (simp; omega)
            intro v' w2 hown1 hgrow _
            have hbel1 := ((Hbel.out.alloc hwz (Obj.cells #[.bool true, .pointer (some ⟨M, 2 + 1, none⟩)] 208)).alloc (by first | omega | (simp; done) | (simp; omega)) (Obj.cells #[.pointer (some ⟨M, 2 + 1, none⟩)] 200)).grown hgrow (by simp; omega) (fun k hk => (hown.lt k hk).1)
            have H1 := Lib.hid (And.intro hown1 hbel1)
            clear hown1 hbel1 hown hgrow
            go_wp2
            go_roundg (3 - (2 + 1))
            case measure => omega
            case rel => exact ⟨2 + 1, by omega, rfl, rfl, by rw [E.out]; simpa [ptrM] using H1.out.1, H1.out.2⟩
      · rw [regsTo_end] at hown
        have Hown := Lib.hid hown
        clear hown
        go_wp2
        exact HR.out _ _ Hbel.out Hown.out
end Go.Proofs.YtcakodemngchpaaGreatDoor

/- What bytes tell of registers, as the reader takes them. -/
namespace Go.Proofs.YtcakodemngchpaaGreatDoor
set_option linter.unusedSimpArgs false
set_option linter.unusedVariables false

def Mac.put (m : Mac) (k : Nat) (v : Int) : Mac := ⟨m.op, if k = 1 then v else m.dst, if k = 2 then v else m.a, if k = 3 then v else m.b, m.n⟩
def Mac.arr (m : Mac) : Array Value := #[.int .i64 m.op, .int .i64 m.dst, .int .i64 m.a, .int .i64 m.b, .int .i64 m.n]
def regsGo : List Nat → Mac → List UInt8 → Option (Mac × List UInt8)
  | [], m, bs => some (m, bs)
  | [x], m, b :: bs => if 15 < b.toNat then none else some (m.put x b.toNat, bs)
  | x :: y :: t, m, b :: bs => regsGo t ((m.put x ((b.toNat / 16 : Nat) : Int)).put y ((b.toNat % 16 : Nat) : Int)) bs
  | _ :: _, _, [] => none
def macGo (op : Int) (bs : List UInt8) : Option (Mac × List UInt8) :=
  if known op = false then none else
  (regsGo (regOffs (shapeOf op)) ⟨op, 0, 0, 0, 0⟩ bs).bind fun r =>
    if (shapeOf op).n = 0 then some r else (numberL r.2).map fun x => (⟨r.1.op, r.1.dst, r.1.a, r.1.b, unfoldN x.1⟩, x.2)
theorem regsGo_eq (s : Shape) (op : Int) (bs : List UInt8) : regsGo (regOffs s) ⟨op, 0, 0, 0, 0⟩ bs = (regsL s.many bs).map fun r => (placeRegs s op r.1 0, r.2) := by
  obtain ⟨d, a, b, n⟩ := s
  cases d <;> cases a <;> cases b <;> rcases bs with _ | ⟨x, _ | ⟨y, r⟩⟩ <;> simp [regsGo, regOffs, regsL, Shape.many, placeRegs, Mac.put] <;> (repeat' split) <;> simp_all
theorem macGo_eq (b : UInt8) (bs : List UInt8) : macGo b.toNat bs = macL (b :: bs) := by
  rw [macGo, macL]
  by_cases hk : known b.toNat = false
  · rw [if_pos hk, if_pos hk]
  · rw [if_neg hk, if_neg hk, regsGo_eq]
    cases regsL (shapeOf b.toNat).many bs with
    | none => rfl
    | some r =>
      simp only [Option.map_some, Option.bind_some]
      split
      · rfl
      · cases numberL r.2 with
        | none => rfl
        | some x => rfl
/-- Lists of registers that stand ahead. -/
def Regs (ps : List Nat) : Prop := ps = [] ∨ ps = [1] ∨ ps = [2] ∨ ps = [3] ∨ ps = [1, 2] ∨ ps = [2, 3] ∨ ps = [1, 2, 3]
theorem regs_of (op : Int) : Regs (regOffs (shapeOf op)) := by
  by_cases h : 1 ≤ op ∧ op ≤ 47
  · obtain ⟨k, rfl⟩ : ∃ k : Nat, op = (k : Int) := ⟨op.toNat, by omega⟩
    rw [shapeOf, if_pos h]
    have key : ∀ k : Nat, k < 48 → (regOffs (shapeTab.getD k ⟨false, false, false, 0⟩) = [] ∨ regOffs (shapeTab.getD k ⟨false, false, false, 0⟩) = [1] ∨ regOffs (shapeTab.getD k ⟨false, false, false, 0⟩) = [2] ∨ regOffs (shapeTab.getD k ⟨false, false, false, 0⟩) = [3] ∨ regOffs (shapeTab.getD k ⟨false, false, false, 0⟩) = [1, 2] ∨ regOffs (shapeTab.getD k ⟨false, false, false, 0⟩) = [2, 3] ∨ regOffs (shapeTab.getD k ⟨false, false, false, 0⟩) = [1, 2, 3]) := by decide
    exact key k (by omega)
  · rw [shapeOf, if_neg h]
    exact .inl rfl
end Go.Proofs.YtcakodemngchpaaGreatDoor
