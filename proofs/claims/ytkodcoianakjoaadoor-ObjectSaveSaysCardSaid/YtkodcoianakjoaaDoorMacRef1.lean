/- The document's answer: which fields an Op speaks of. -/
import Derived.Test.YtkodcoianakjoaaDoorLib
import Derived.Test.YtkodcoianakjoaaDoorRows
import Derived.IntWalk
import Derived.Deep.LoopGhost
import Derived.Test.YtkodcoianakjoaaDoorMac3
namespace Go.Proofs.YtkodcoianakjoaaDoor
open Go.RowKit
set_option linter.unusedSimpArgs false
set_option linter.unusedVariables false

def hasB (s : ByteArray) (c : UInt8) : Nat → Nat → Bool
  | 0, _ => false
  | m + 1, i => (s.get! i == c) || hasB s c m (i + 1)
theorem hasB_step {s : ByteArray} {c : UInt8} {k : Nat} (h : k < s.size) : hasB s c (s.size - k) k = ((s.get! k == c) || hasB s c (s.size - (k + 1)) (k + 1)) := by
  rw [show s.size - k = (s.size - (k + 1)) + 1 from by omega, hasB]

theorem byte_get {s : ByteArray} {k : Nat} (h : k < s.size) : s[k] = s.get! k := by
  show s.data[k] = s.data[k]!
  rw [getElem!_pos s.data k h]
theorem byte_eq (a b : UInt8) : (((a.toNat : Nat) : Int) == ((b.toNat : Nat) : Int)) = (a == b) := by
  by_cases h : a = b
  · subst h; simp
  · have : a.toNat ≠ b.toNat := fun e => h (UInt8.toNat_inj.1 e)
    rw [beq_false_of_ne h, beq_false_of_ne (by omega)]

set_option maxHeartbeats 400000 in
theorem Has_calls (s : ByteArray) (c : UInt8) (hs : s.size ≤ 100) (w : World) (R : Ending → World → Prop) (hR : R (.returned (.bool (hasB s c s.size 0))) w) :
    Calls Tryd.prog 94 #[.string s, .int .u8 c.toNat] w R := by
  have HR := Lib.hid hR
  clear hR
  go_enter Tryd.func94, Tryd.ntmps94
  go_wp2
  go_loopg [5] s.size (fun g i wr => ∃ k : Nat, k ≤ s.size ∧ g = s.size - k ∧ i = .int .i64 k ∧ hasB s c (s.size - k) k = hasB s c s.size 0 ∧ wr = w)
  case atStart => exact ⟨0, Nat.zero_le _, rfl, rfl, rfl, rfl⟩
  case round =>
    obtain ⟨k, hk, rfl, rfl, ht, rfl⟩ := hrel
    have Ht := Lib.hid ht
    clear ht
    by_cases hlt : k < s.size
    · have i1 : (0 : Int) ≤ (k : Int) := Int.natCast_nonneg _
      have i2 : (k : Int) < (s.size : Int) := by omega
      have Hs := Lib.hid (hasB_step (c := c) hlt)
      rw [← byte_get hlt] at Hs
      cases hx : (s[k] == c)
      · have hb : (((s[k].toNat : Nat) : Int) == ((c.toNat : Nat) : Int)) = false := (byte_eq _ _).trans hx
        rw [hx, Bool.false_or] at Hs
        clear hx
        go_wp2
        go_roundg (s.size - (k + 1))
        case measure => omega
        case rel => exact ⟨k + 1, by omega, rfl, by go_num, by rw [← Ht.out, Hs.out], rfl⟩
      · have hb : (((s[k].toNat : Nat) : Int) == ((c.toNat : Nat) : Int)) = true := (byte_eq _ _).trans hx
        rw [hx, Bool.true_or] at Hs
        rw [← Ht.out, Hs.out] at HR
        clear hx
        go_wp2
        exact HR.out
    · obtain rfl : k = s.size := by omega
      rw [Nat.sub_self, hasB] at Ht
      rw [← Ht.out] at HR
      go_wp2
      exact HR.out

def fieldsTab : List ByteArray :=
  [⟨#[63]⟩, ⟨#[100, 110]⟩, ⟨#[100, 97]⟩, ⟨#[100, 97]⟩, ⟨#[100, 97]⟩] ++ List.replicate 14 ⟨#[100, 97, 98]⟩ ++ List.replicate 14 ⟨#[100, 97, 110]⟩ ++ [⟨#[100, 97, 110]⟩, ⟨#[97, 98, 110]⟩, ⟨#[100, 119]⟩, ⟨#[97, 119]⟩, ⟨#[116]⟩, ⟨#[97, 116]⟩, ⟨#[97, 116]⟩] ++ List.replicate 4 ⟨#[97, 98, 116]⟩ ++ [⟨#[114]⟩, ⟨#[]⟩, ⟨#[100]⟩, ⟨#[97]⟩]
def fieldsOf (op : Int) : ByteArray := if 1 ≤ op ∧ op ≤ 47 then fieldsTab.getD op.toNat ⟨#[63]⟩ else ⟨#[63]⟩
theorem fields_mid1 (k : Nat) (h : 5 ≤ k) (h' : k ≤ 18) : fieldsTab.getD k ⟨#[63]⟩ = ⟨#[100, 97, 98]⟩ := by
  have key : ∀ k : Nat, k < 48 → 5 ≤ k → k ≤ 18 → fieldsTab.getD k ⟨#[63]⟩ = ⟨#[100, 97, 98]⟩ := by decide
  exact key k (by omega) h h'
theorem fields_mid2 (k : Nat) (h : 19 ≤ k) (h' : k ≤ 32) : fieldsTab.getD k ⟨#[63]⟩ = ⟨#[100, 97, 110]⟩ := by
  have key : ∀ k : Nat, k < 48 → 19 ≤ k → k ≤ 32 → fieldsTab.getD k ⟨#[63]⟩ = ⟨#[100, 97, 110]⟩ := by decide
  exact key k (by omega) h h'
theorem fields_mid3 (k : Nat) (h : 40 ≤ k) (h' : k ≤ 43) : fieldsTab.getD k ⟨#[63]⟩ = ⟨#[97, 98, 116]⟩ := by
  have key : ∀ k : Nat, k < 48 → 40 ≤ k → k ≤ 43 → fieldsTab.getD k ⟨#[63]⟩ = ⟨#[97, 98, 116]⟩ := by decide
  exact key k (by omega) h h'

set_option maxRecDepth 100000 in
set_option maxHeartbeats 1000000 in
theorem Fields_calls (op : Int) (w : World) (R : Ending → World → Prop) (hR : ∀ w', Below w.heap.size w w' → R (.returned (.string (fieldsOf op))) w') :
    Calls Tryd.prog 93 #[.int .i64 op] w R := by
  by_cases h1 : op < 1
  · have HR : Hid (∀ w', Below w.heap.size w w' → R (.returned (.string ⟨#[63]⟩)) w') := by
      rw [show fieldsOf op = ⟨#[63]⟩ from by rw [fieldsOf, if_neg (by omega)]] at hR
      exact hR
    clear hR
    go_enter Tryd.func93, Tryd.ntmps93
    go_wp2
    exact HR.out _ (by repeat (first | exact Below.refl _ _ | assumption | refine below_drewN ?_ _ | refine Below.drew ?_ | refine Below.setCell ?_ (by first | omega | (simp; done) | (simp; omega)) _ | refine Below.alloc ?_ (by first | omega | (simp; done) | (simp; omega)) _ | refine below_step (by assumption) ?_ (by first | omega | (simp; done) | (simp; omega))))
  by_cases h2 : 47 < op
  · have HR : Hid (∀ w', Below w.heap.size w w' → R (.returned (.string ⟨#[63]⟩)) w') := by
      rw [show fieldsOf op = ⟨#[63]⟩ from by rw [fieldsOf, if_neg (by omega)]] at hR
      exact hR
    clear hR
    have h3 : 1 ≤ op := by omega
    go_enter Tryd.func93, Tryd.ntmps93
    go_wp2
    exact HR.out _ (by repeat (first | exact Below.refl _ _ | assumption | refine below_drewN ?_ _ | refine Below.drew ?_ | refine Below.setCell ?_ (by first | omega | (simp; done) | (simp; omega)) _ | refine Below.alloc ?_ (by first | omega | (simp; done) | (simp; omega)) _ | refine below_step (by assumption) ?_ (by first | omega | (simp; done) | (simp; omega))))
  obtain ⟨k, rfl⟩ : ∃ k : Nat, op = (k : Int) := ⟨op.toNat, by omega⟩
  have he : fieldsOf (k : Int) = fieldsTab.getD k ⟨#[63]⟩ := by rw [fieldsOf, if_pos (by omega)]; rfl
  rw [he] at hR
  clear he
  by_cases hc1 : 5 ≤ (k : Int) ∧ (k : Int) ≤ 18
  · have HR : Hid (∀ w', Below w.heap.size w w' → R (.returned (.string ⟨#[100, 97, 98]⟩)) w') := by
      rw [fields_mid1 k (by omega) (by omega)] at hR
      exact hR
    clear hR
    have g1 : 5 ≤ (k : Int) := hc1.1
    have g2 : (k : Int) ≤ 18 := hc1.2
    clear hc1
    go_enter Tryd.func93, Tryd.ntmps93
    go_wp2
    exact HR.out _ (by repeat (first | exact Below.refl _ _ | assumption | refine below_drewN ?_ _ | refine Below.drew ?_ | refine Below.setCell ?_ (by first | omega | (simp; done) | (simp; omega)) _ | refine Below.alloc ?_ (by first | omega | (simp; done) | (simp; omega)) _ | refine below_step (by assumption) ?_ (by first | omega | (simp; done) | (simp; omega))))
  by_cases hc2 : 19 ≤ (k : Int) ∧ (k : Int) ≤ 32
  · have HR : Hid (∀ w', Below w.heap.size w w' → R (.returned (.string ⟨#[100, 97, 110]⟩)) w') := by
      rw [fields_mid2 k (by omega) (by omega)] at hR
      exact hR
    clear hR
    have g1 : 19 ≤ (k : Int) := hc2.1
    have g2 : (k : Int) ≤ 32 := hc2.2
    clear hc2
    have q1 : ¬ ((k : Int) ≤ 18) := by omega
    have q4 : 5 ≤ (k : Int) := by omega
    go_enter Tryd.func93, Tryd.ntmps93
    go_wp2
    exact HR.out _ (by repeat (first | exact Below.refl _ _ | assumption | refine below_drewN ?_ _ | refine Below.drew ?_ | refine Below.setCell ?_ (by first | omega | (simp; done) | (simp; omega)) _ | refine Below.alloc ?_ (by first | omega | (simp; done) | (simp; omega)) _ | refine below_step (by assumption) ?_ (by first | omega | (simp; done) | (simp; omega))))
  by_cases hc3 : 40 ≤ (k : Int) ∧ (k : Int) ≤ 43
  · have HR : Hid (∀ w', Below w.heap.size w w' → R (.returned (.string ⟨#[97, 98, 116]⟩)) w') := by
      rw [fields_mid3 k (by omega) (by omega)] at hR
      exact hR
    clear hR
    have g1 : 40 ≤ (k : Int) := hc3.1
    have g2 : (k : Int) ≤ 43 := hc3.2
    clear hc3
    have q1 : ¬ ((k : Int) ≤ 18) := by omega
    have q4 : 5 ≤ (k : Int) := by omega
    have q2 : ¬ ((k : Int) ≤ 32) := by omega
    have q5 : 19 ≤ (k : Int) := by omega
    go_enter Tryd.func93, Tryd.ntmps93
    go_wp2
    exact HR.out _ (by repeat (first | exact Below.refl _ _ | assumption | refine below_drewN ?_ _ | refine Below.drew ?_ | refine Below.setCell ?_ (by first | omega | (simp; done) | (simp; omega)) _ | refine Below.alloc ?_ (by first | omega | (simp; done) | (simp; omega)) _ | refine below_step (by assumption) ?_ (by first | omega | (simp; done) | (simp; omega))))
  have hk : k = 1 ∨ k = 2 ∨ k = 3 ∨ k = 4 ∨ k = 33 ∨ k = 34 ∨ k = 35 ∨ k = 36 ∨ k = 37 ∨ k = 38 ∨ k = 39 ∨ k = 44 ∨ k = 45 ∨ k = 46 ∨ k = 47 := by omega
  have hl : ([.string ⟨#[63]⟩, .string ⟨#[100, 110]⟩, .string ⟨#[100, 97]⟩, .string ⟨#[100, 97]⟩, .string ⟨#[100, 97]⟩, .string ⟨#[]⟩, .string ⟨#[]⟩, .string ⟨#[]⟩, .string ⟨#[]⟩, .string ⟨#[]⟩, .string ⟨#[]⟩, .string ⟨#[]⟩, .string ⟨#[]⟩, .string ⟨#[]⟩, .string ⟨#[]⟩, .string ⟨#[]⟩, .string ⟨#[]⟩, .string ⟨#[]⟩, .string ⟨#[]⟩, .string ⟨#[]⟩, .string ⟨#[]⟩, .string ⟨#[]⟩, .string ⟨#[]⟩, .string ⟨#[]⟩, .string ⟨#[]⟩, .string ⟨#[]⟩, .string ⟨#[]⟩, .string ⟨#[]⟩, .string ⟨#[]⟩, .string ⟨#[]⟩, .string ⟨#[]⟩, .string ⟨#[]⟩, .string ⟨#[]⟩, .string ⟨#[100, 97, 110]⟩, .string ⟨#[97, 98, 110]⟩, .string ⟨#[100, 119]⟩, .string ⟨#[97, 119]⟩, .string ⟨#[116]⟩, .string ⟨#[97, 116]⟩, .string ⟨#[97, 116]⟩, .string ⟨#[]⟩, .string ⟨#[]⟩, .string ⟨#[]⟩, .string ⟨#[]⟩, .string ⟨#[114]⟩, .string ⟨#[]⟩, .string ⟨#[100]⟩, .string ⟨#[97]⟩] : List Value)[k]? = some (.string (fieldsTab.getD k ⟨#[63]⟩)) := by
    rcases hk with rfl | rfl | rfl | rfl | rfl | rfl | rfl | rfl | rfl | rfl | rfl | rfl | rfl | rfl | rfl <;> rfl
  have g1 : (k : Int) < 5 ∨ (32 < (k : Int) ∧ (k : Int) < 40) ∨ 43 < (k : Int) := by omega
  have HR := Lib.hid hR
  have i0 : (0 : Int) ≤ (k : Int) := Int.natCast_nonneg _
  have i1 : (k : Int) < 48 := by omega
  clear hR hc1 hc2 hc3 hk
  generalize fieldsTab.getD k ⟨#[63]⟩ = s at *
  rcases g1 with g1 | ⟨g1, g2⟩ | g1
  · have q1 : ¬ (5 ≤ (k : Int)) := by omega
    have q2 : ¬ (19 ≤ (k : Int)) := by omega
    have q3 : ¬ (40 ≤ (k : Int)) := by omega
    go_enter Tryd.func93, Tryd.ntmps93
    go_wp2
    exact HR.out _ (by repeat (first | exact Below.refl _ _ | assumption | refine below_drewN ?_ _ | refine Below.drew ?_ | refine Below.setCell ?_ (by first | omega | (simp; done) | (simp; omega)) _ | refine Below.alloc ?_ (by first | omega | (simp; done) | (simp; omega)) _ | refine below_step (by assumption) ?_ (by first | omega | (simp; done) | (simp; omega))))
  · have q1 : ¬ ((k : Int) ≤ 18) := by omega
    have q2 : ¬ ((k : Int) ≤ 32) := by omega
    have q3 : ¬ (40 ≤ (k : Int)) := by omega
    have q4 : 5 ≤ (k : Int) := by omega
    have q5 : 19 ≤ (k : Int) := by omega
    go_enter Tryd.func93, Tryd.ntmps93
    go_wp2
    exact HR.out _ (by repeat (first | exact Below.refl _ _ | assumption | refine below_drewN ?_ _ | refine Below.drew ?_ | refine Below.setCell ?_ (by first | omega | (simp; done) | (simp; omega)) _ | refine Below.alloc ?_ (by first | omega | (simp; done) | (simp; omega)) _ | refine below_step (by assumption) ?_ (by first | omega | (simp; done) | (simp; omega))))
  · have q1 : ¬ ((k : Int) ≤ 18) := by omega
    have q2 : ¬ ((k : Int) ≤ 32) := by omega
    have q3 : ¬ ((k : Int) ≤ 43) := by omega
    have q4 : 5 ≤ (k : Int) := by omega
    have q5 : 19 ≤ (k : Int) := by omega
    have q6 : 40 ≤ (k : Int) := by omega
    go_enter Tryd.func93, Tryd.ntmps93
    go_wp2
    exact HR.out _ (by repeat (first | exact Below.refl _ _ | assumption | refine below_drewN ?_ _ | refine Below.drew ?_ | refine Below.setCell ?_ (by first | omega | (simp; done) | (simp; omega)) _ | refine Below.alloc ?_ (by first | omega | (simp; done) | (simp; omega)) _ | refine below_step (by assumption) ?_ (by first | omega | (simp; done) | (simp; omega))))
end Go.Proofs.YtkodcoianakjoaaDoor
