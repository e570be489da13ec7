/- Words for rows of bytes that are appended to by calls: what may have been written, what the row holds. -/
import Derived.Test.YtkodcoianakjoaaDoorLib
import Derived.Test.YtkodcoianakjoaaDoorRows
import Derived.IntWalk
import Derived.Test.YtkodcoianakjoaaDoorCopy
import Derived.Test.YtkodcoianakjoaaDoorLib6
namespace Go.Proofs.YtkodcoianakjoaaDoor
open Go.RowKit
set_option linter.unusedSimpArgs false
set_option linter.unusedVariables false

/-- From w to w' only blocks X have been written, and new ones. -/
structure Grew (X : Nat → Prop) (w w' : World) : Prop where
  os : w'.os = w.os
  tape : w'.tape = w.tape
  output : w'.output = w.output
  size : w.heap.size ≤ w'.heap.size
  block : ∀ k, k < w.heap.size → ¬ X k → w'.heap[k]? = w.heap[k]?
theorem Grew.refl (X : Nat → Prop) (w : World) : Grew X w w := ⟨rfl, rfl, rfl, Nat.le_refl _, fun _ _ _ => rfl⟩
theorem Grew.trans {X Y : Nat → Prop} {a b c : World} (h : Grew X a b) (k : Grew Y b c) (hs : ∀ j, j < a.heap.size → Y j → X j) : Grew X a c :=
  ⟨k.os.trans h.os, k.tape.trans h.tape, k.output.trans h.output, Nat.le_trans h.size k.size, fun j hj hX => (k.block j (Nat.lt_of_lt_of_le hj h.size) (fun hy => hX (hs j hj hy))).trans (h.block j hj hX)⟩
theorem Grew.more {X Y : Nat → Prop} {a b : World} (h : Grew X a b) (hs : ∀ j, j < a.heap.size → X j → Y j) : Grew Y a b := (Grew.refl Y a).trans h hs
theorem Grew.of_grown {w w' : World} {row : Option Nat} (h : w.grownBy w' row) : Grew (fun k => row = some k) w w' := ⟨h.os, h.tape, h.output, h.size, fun k hk hx => h.block k hk (fun e => hx e.symm)⟩
theorem Grew.of_below {X : Nat → Prop} {B : Nat} {w w' : World} (h : Below B w w') (hB : ∀ k, B ≤ k → k < w.heap.size → X k) : Grew X w w' := ⟨h.os, h.tape, h.output, h.size, fun k hk hX => h.block k (by
  rcases Nat.lt_or_ge k B with hlt | hge
  · exact hlt
  · exact absurd (hB k hge hk) hX)⟩
theorem Grew.below {X : Nat → Prop} {B : Nat} {w w' : World} (h : Grew X w w') (hX : ∀ k, k < B → ¬ X k) (hB : B ≤ w.heap.size) : Below B w w' := ⟨h.os, h.tape, h.output, h.size, fun k hk => h.block k (by omega) (hX k hk)⟩
theorem Grew.on {X : Nat → Prop} {a w w' : World} (h : Grew X a w) (hb : Below w.heap.size w w') : Grew X a w' :=
  h.trans (Grew.of_below (X := fun _ => False) hb (fun k h1 h2 => by omega)) (fun _ _ h => h.elim)
theorem Grew.alloc {X : Nat → Prop} {a w : World} (h : Grew X a w) (o : Obj) : Grew X a (w.alloc o) := h.on ((Below.refl _ _).alloc (Nat.le_refl _) o)
theorem Grew.drew {X : Nat → Prop} {a w : World} (h : Grew X a w) : Grew X a w.drew := h.on (Below.refl w.heap.size w).drew
theorem Grew.drewN {X : Nat → Prop} {a w : World} (h : Grew X a w) (n : Nat) : Grew X a (w.drewN n) := h.on (below_drewN (Below.refl w.heap.size w) n)
theorem Grew.setCell {X : Nat → Prop} {a w : World} (h : Grew X a w) (p : Addr) (hp : X p.block ∨ a.heap.size ≤ p.block) (u : Value) : Grew X a (w.setCell p u) :=
  h.trans (Grew.of_grown (grown_setCell w p u)) (fun j hj e => by
    have : p.block = j := Option.some.inj e
    subst this
    rcases hp with hp | hp
    · exact hp
    · omega)

/-- A row of bytes of the call's own, from base on; or one that is full (a constant's row: it bears a mark), which an append leaves. -/
def Buf (w : World) (base : Nat) (v : Value) (bs : List UInt8) : Prop :=
  w.ownsRow base 5 1 v bs.length (bs.flatMap byteCells) ∨
  (0 < bs.length ∧ bs.length ≤ maxLen ∧ ∃ g cur fr, v = .slice (some ⟨g, 0, none⟩) bs.length bs.length ∧ base ≤ g ∧ w.heap[g]? = some (.cells cur 5 fr) ∧ cur.toList = bs.flatMap byteCells)
/-- Where the row v' lies that has come of the row v: there, or in a new block. -/
def Came (w : World) (v v' : Value) : Prop := ∀ g, v'.ownBlock = some g → v.ownBlock = some g ∨ w.heap.size ≤ g
theorem Came.refl (w : World) (v : Value) : Came w v v := fun _ h => .inl h
theorem Came.trans {w w1 : World} {a b c : Value} (h : Came w a b) (k : Came w1 b c) (hs : w.heap.size ≤ w1.heap.size) : Came w a c := fun g hg => by
  rcases k g hg with h1 | h1
  · exact h g h1
  · exact .inr (by omega)
theorem Buf.slice {w : World} {base : Nat} {v : Value} {bs : List UInt8} (h : Buf w base v bs) : ∃ A c, v = .slice A bs.length c := by
  rcases h with h | ⟨_, _, g, _, _, h, _⟩
  · exact own_slice h
  · exact ⟨_, _, h⟩
theorem Buf.cap {w : World} {base : Nat} {A : Option Addr} {n c : Nat} {bs : List UInt8} (h : Buf w base (.slice A n c) bs) : bs.length ≤ c := by
  rcases h with h | ⟨_, _, g, _, _, h, _⟩
  · rcases h.2 with ⟨h, h0⟩ | ⟨_, _, _, h, _, _, h1, _⟩
    · injection h with _ _ h
      omega
    · injection h with _ _ h
      omega
  · injection h with _ _ h
    omega
theorem Buf.lt {w : World} {base : Nat} {v : Value} {bs : List UInt8} (h : Buf w base v bs) : ∀ k, v.ownBlock = some k → base ≤ k ∧ k < w.heap.size := by
  rcases h with h | ⟨_, _, g, _, _, rfl, hb, hh, _⟩
  · exact World.ownsRow.lt h
  · intro k hk
    obtain rfl : g = k := Option.some.inj hk
    exact ⟨hb, (Array.getElem?_eq_some_iff.1 hh).1⟩
theorem Buf.keep {w w' : World} {base : Nat} {v : Value} {bs : List UInt8} (h : Buf w base v bs) (hk : ∀ k, v.ownBlock = some k → k < w.heap.size → w'.heap[k]? = w.heap[k]?) : Buf w' base v bs := by
  have hl := h.lt
  rcases h with h | ⟨h0, hm, g, cur, fr, rfl, hb, hh, hc⟩
  · left
    obtain ⟨h1, h2⟩ := h
    refine ⟨h1, ?_⟩
    rcases h2 with h2 | ⟨g, cap, cur, hv, hb, hh, r⟩
    · exact .inl h2
    · have e : v.ownBlock = some g := by rw [hv]; rfl
      exact .inr ⟨g, cap, cur, hv, hb, (hk g e (hl g e).2).trans hh, r⟩
  · exact .inr ⟨h0, hm, g, cur, fr, rfl, hb, (hk g rfl (hl g rfl).2).trans hh, hc⟩
theorem Buf.below {w w' : World} {base B : Nat} {v : Value} {bs : List UInt8} (h : Buf w base v bs) (hb : Below B w w') (hB : w.heap.size ≤ B) : Buf w' base v bs := h.keep fun k _ hk => hb.block k (by omega)
theorem Buf.alloc {w : World} {base : Nat} {v : Value} {bs : List UInt8} (h : Buf w base v bs) (o : Obj) : Buf (w.alloc o) base v bs := h.below ((Below.refl _ _).alloc (Nat.le_refl _) o) (Nat.le_refl _)
theorem Buf.grew {X : Nat → Prop} {w w' : World} {base : Nat} {v : Value} {bs : List UInt8} (h : Buf w base v bs) (hg : Grew X w w') (hX : ∀ k, v.ownBlock = some k → ¬ X k) : Buf w' base v bs := h.keep fun k hk hl => hg.block k hl (hX k hk)
theorem Buf.SL {w : World} {base B : Nat} {v : Value} {bs : List UInt8} (h : Buf w base v bs) (hB : w.heap.size ≤ B) : rpByte.SL w B bs v := by
  rcases h with h | ⟨h0, hm, g, cur, fr, rfl, hb, hh, hc⟩
  · exact SLbyte_own h hB
  · refine ⟨_, _, rfl, hm, Nat.le_refl _, fun _ => ⟨g, 0, rfl, by have := (Array.getElem?_eq_some_iff.1 hh).1; omega, fun k x hk => ⟨byteCells x, rfl, fun j u hj => ?_⟩⟩⟩
    have hj1 : j < 1 := (List.getElem?_eq_some_iff.1 hj).1
    have hg := Rp.flat_get byteCells 1 (fun _ => rfl) bs k j x hk hj1
    rw [← hc, hj, Array.getElem?_toList] at hg
    rw [Nat.zero_add]
    simpa [World.cell?, hh, rpByte] using hg
theorem Buf.base {w : World} {base b' : Nat} {v : Value} {bs : List UInt8} (h : Buf w base v bs) (hb : b' ≤ base) : Buf w b' v bs := by
  rcases h with h | ⟨h0, hm, g, cur, fr, h1, h2, r⟩
  · exact .inl (ownsRow_base h hb)
  · exact .inr ⟨h0, hm, g, cur, fr, h1, by omega, r⟩
theorem flat_bytes (bs cs : List UInt8) : (bs ++ cs).flatMap byteCells = bs.flatMap byteCells ++ cs.flatMap byteCells := List.flatMap_append
theorem Came.of_lies {w : World} {v : Value} {g n cap : Nat} (h : v.ownBlock = some g ∨ g = w.heap.size) : Came w v (.slice (some ⟨g, 0, none⟩) n cap) := fun k hk => by
  obtain rfl : g = k := Option.some.inj hk
  rcases h with h | h
  · exact .inl h
  · exact .inr (by omega)

/-- A number, as bytes. -/
def numF : Nat → Nat → List UInt8
  | 0, _ => []
  | f + 1, n => if n < 128 then [UInt8.ofNat n] else UInt8.ofNat (n % 128 + 128) :: numF f (n / 128)
def numB (n : Nat) : List UInt8 := numF 10 n
theorem numF_more : ∀ (f g n : Nat), n < 128 ^ f → n < 128 ^ g → 0 < f → 0 < g → numF f n = numF g n
  | 0, _, _, _, _, h, _ => by omega
  | _ + 1, 0, _, _, _, _, h => by omega
  | f + 1, g + 1, n, hf, hg, _, _ => by
    rw [numF, numF]
    by_cases h : n < 128
    · rw [if_pos h, if_pos h]
    · rw [if_neg h, if_neg h]
      have h1 : n / 128 < 128 ^ f := by rw [Nat.div_lt_iff_lt_mul (by decide), ← Nat.pow_succ]; exact hf
      have h2 : n / 128 < 128 ^ g := by rw [Nat.div_lt_iff_lt_mul (by decide), ← Nat.pow_succ]; exact hg
      have h3 : 0 < f := by
        rcases Nat.eq_zero_or_pos f with e | e
        · subst e; simp at h1; omega
        · exact e
      have h4 : 0 < g := by
        rcases Nat.eq_zero_or_pos g with e | e
        · subst e; simp at h2; omega
        · exact e
      rw [numF_more f g _ h1 h2 h3 h4]
theorem numB_small {n : Nat} (h : n < 128) : numB n = [UInt8.ofNat n] := by
  unfold numB
  rw [numF, if_pos h]
theorem numB_big {n : Nat} (h : ¬ n < 128) (hn : n < 18446744073709551616) : numB n = UInt8.ofNat (n % 128 + 128) :: numB (n / 128) := by
  have e : numB n = UInt8.ofNat (n % 128 + 128) :: numF 9 (n / 128) := by
    unfold numB
    rw [numF, if_neg h]
  rw [e]
  unfold numB
  rw [numF_more 9 10 (n / 128) (by omega) (by omega) (by decide) (by decide)]
theorem numF_len : ∀ (f n : Nat), (numF f n).length ≤ f
  | 0, _ => Nat.le_refl _
  | f + 1, n => by
    rw [numF]
    split
    · simp
    · have := numF_len f (n / 128)
      simp; omega
theorem numB_len (n : Nat) : (numB n).length ≤ 10 := numF_len 10 n
end Go.Proofs.YtkodcoianakjoaaDoor
