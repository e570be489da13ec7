/- Words for memory that all walks of this family of claims use: a slice that reads as a list of typed things, whatever lies beyond it; what a fresh row of the call's own holds. More words: parts of a slice. Words for rows of the call's own that are written in place. Words for rows of the call's own whose elements lead on to other memory: what has been built so far, and one more. Bytes and texts: string(b) of a slice that reads as a list of bytes. -/
import Derived.WalkKit
import Derived.WalkSpells
import Derived.WalkLawsBesides
import Derived.Deep.QuietTactic
import Derived.BigQuiet
import Derived.BigGuardPart
import Derived.Lib.Hide
import Derived.Deep.RegionHeld3
import Derived.Deep.AppendLies
import Derived.StillTailTactics
import Derived.ProofKit
import Derived.OpenShut
import Derived.ChangeOld
import Derived.Deep.Slices
import Derived.Deep.Fields
import Derived.Deep.RegionLaw
import Derived.Lib.SliceRun
import Derived.Test.YtdanebboiekieaaGreatDoorRows
import Derived.IntWalk
import Derived.Laws.BytesArg
/-
 Words for memory that all walks of this family of claims use: a slice that reads as a list of typed things, whatever lies beyond it; what a fresh row of the call's own holds.
-/
namespace Go.Proofs.YtdanebboiekieaaGreatDoor
open Go.RowKit Go.ChangeShapes Go.WideShapes Go.Deep
set_option linter.unusedSimpArgs false
set_option linter.unusedVariables false

/-- A number that fits an int. -/
def I64 (n : Int) : Prop := -9223372036854775808 ≤ n ∧ n ≤ 9223372036854775807

/-- How things of a type lie in cells: how many, what these hold (all memory that they lead to lies below block B), and which things fit. -/
structure Rp (α : Type) where
 size : Nat
 rep : World → Nat → α → List Value → Prop
 ok : α → Prop
 len : ∀ w B a cs, rep w B a cs → cs.length = size
 mono : ∀ w w' B a cs, rep w B a cs → (∀ (p : Addr) u, p.block < B → w.cell? p = some u → w'.cell? p = some u) → rep w' B a cs
 more : ∀ w B B' a cs, rep w B a cs → B ≤ B' → rep w B' a cs

/-- A slice that reads as a list, for reading only. -/
def Rp.SL {α : Type} (r : Rp α) (w : World) (B : Nat) (xs : List α) (v : Value) : Prop :=
 ∃ A c, v = .slice A xs.length c ∧ xs.length ≤ maxLen ∧ xs.length ≤ c ∧ (0 < xs.length → ∃ b off, A = some ⟨b, off, none⟩ ∧ b < B ∧
  ∀ k x, xs[k]? = some x → ∃ cs, r.rep w B x cs ∧ ∀ j u, cs[j]? = some u → w.cell? ⟨b, off + k * r.size + j, none⟩ = some u)

theorem Rp.SL.mono {α : Type} {r : Rp α} {w w' : World} {B : Nat} {xs : List α} {v : Value} (h : r.SL w B xs v) (hk : ∀ (p : Addr) u, p.block < B → w.cell? p = some u → w'.cell? p = some u) : r.SL w' B xs v := by
 obtain ⟨A, c, hv, hl, hc, h⟩ := h
 refine ⟨A, c, hv, hl, hc, fun hp => ?_⟩
 obtain ⟨b, off, hA, hb, hx⟩ := h hp
 refine ⟨b, off, hA, hb, fun k x hk' => ?_⟩
 obtain ⟨cs, hr, hcs⟩ := hx k x hk'
 exact ⟨cs, r.mono _ _ _ _ _ hr hk, fun j u hj => hk _ _ hb (hcs j u hj)⟩
theorem Rp.SL.keep {α : Type} {r : Rp α} {w w' : World} {B : Nat} {xs : List α} {v : Value} (h : r.SL w B xs v) (hk : ∀ p : Addr, p.block < B → w'.cell? p = w.cell? p) : r.SL w' B xs v :=
 h.mono fun p u hp hc => (hk p hp).trans hc

theorem Rp.SL.more {α : Type} {r : Rp α} {w : World} {B B' : Nat} {xs : List α} {v : Value} (h : r.SL w B xs v) (hB : B ≤ B') : r.SL w B' xs v := by
 obtain ⟨A, c, hv, hl, hc, h⟩ := h
 refine ⟨A, c, hv, hl, hc, fun hp => ?_⟩
 obtain ⟨b, off, hA, hb, hx⟩ := h hp
 refine ⟨b, off, hA, by omega, fun k x hk' => ?_⟩
 obtain ⟨cs, hr, hcs⟩ := hx k x hk'
 exact ⟨cs, r.more _ _ _ _ _ hr hB, hcs⟩

theorem Rp.SL.below {α : Type} {r : Rp α} {w w' : World} {B : Nat} {xs : List α} {v : Value} (h : r.SL w B xs v) (hb : Below B w w') : r.SL w' B xs v := h.keep fun _ hp => hb.cell hp
theorem Rp.SL.up {α : Type} {r : Rp α} {w w' : World} {B B' : Nat} {xs : List α} {v : Value} (h : r.SL w B xs v) (hb : Below B w w') (hB : B ≤ B') : r.SL w' B' xs v := (h.below hb).more hB
theorem Rp.SL.nil {α : Type} (r : Rp α) (w : World) (B : Nat) : r.SL w B [] (.slice none 0 0) := ⟨none, 0, rfl, Nat.zero_le _, Nat.le_refl _, fun h => absurd h (Nat.lt_irrefl 0)⟩
theorem Rp.SL.len {α : Type} {r : Rp α} {w : World} {B : Nat} {xs : List α} {A : Option Addr} {n c : Nat} (h : r.SL w B xs (.slice A n c)) : n = xs.length := by
 obtain ⟨A', c', hv, _⟩ := h
 injection hv
theorem Rp.SL.max {α : Type} {r : Rp α} {w : World} {B : Nat} {xs : List α} {v : Value} (h : r.SL w B xs v) : xs.length ≤ maxLen := by
 obtain ⟨A', c', hv, h, _⟩ := h
 exact h

/-- What stands at place k. -/
theorem Rp.SL.at_ {α : Type} {r : Rp α} {w : World} {B : Nat} {xs : List α} {A : Option Addr} {n c : Nat} (h : r.SL w B xs (.slice A n c)) {k : Nat} {x : α} (hk : xs[k]? = some x) :
 ∃ b off cs, A = some ⟨b, off, none⟩ ∧ b < B ∧ r.rep w B x cs ∧ ∀ j u, cs[j]? = some u → w.cell? ⟨b, off + k * r.size + j, none⟩ = some u := by
 obtain ⟨A', c', hv, _, _, h⟩ := h
 injection hv with hA hn hc
 subst hA
 have hlt : k < xs.length := (List.getElem?_eq_some_iff.1 hk).1
 obtain ⟨b, off, hA, hb, hx⟩ := h (by omega)
 obtain ⟨cs, hr, hcs⟩ := hx k x hk
 exact ⟨b, off, cs, hA, hb, hr, hcs⟩

theorem Rp.SL.cases_ {α : Type} {r : Rp α} {w : World} {B : Nat} {xs : List α} {v : Value} (h : r.SL w B xs v) : ∃ A c, v = .slice A xs.length c ∧ xs.length ≤ 9223372036854775807 ∧ xs.length ≤ c ∧ r.SL w B xs (.slice A xs.length c) := by
 obtain ⟨A, c, rfl, hl, hc, h'⟩ := h
 exact ⟨A, c, rfl, hl, hc, A, c, rfl, hl, hc, h'⟩

/-- A list of things, as one cell: a slice. -/
def Rp.slice {α : Type} (r : Rp α) : Rp (List α) where
 size := 1
 rep := fun w B xs cs => ∃ v, cs = [v] ∧ r.SL w B xs v
 ok := fun xs => xs.length ≤ maxLen ∧ ∀ x ∈ xs, r.ok x
 len := by rintro w B a cs ⟨v, rfl, _⟩; rfl
 mono := by rintro w w' B a cs ⟨v, rfl, h⟩ hk; exact ⟨v, rfl, h.mono hk⟩
 more := by rintro w B B' a cs ⟨v, rfl, h⟩ hk; exact ⟨v, rfl, h.more hk⟩

/-- Two things, one behind the other. -/
def Rp.pair {α β : Type} (r : Rp α) (s : Rp β) : Rp (α × β) where
 size := r.size + s.size
 rep := fun w B x cs => ∃ c1 c2, cs = c1 ++ c2 ∧ r.rep w B x.1 c1 ∧ s.rep w B x.2 c2
 ok := fun x => r.ok x.1 ∧ s.ok x.2
 len := by rintro w B a cs ⟨c1, c2, rfl, h1, h2⟩; rw [List.length_append, r.len _ _ _ _ h1, s.len _ _ _ _ h2]
 mono := by rintro w w' B a cs ⟨c1, c2, rfl, h1, h2⟩ hk; exact ⟨c1, c2, rfl, r.mono _ _ _ _ _ h1 hk, s.mono _ _ _ _ _ h2 hk⟩
 more := by rintro w B B' a cs ⟨c1, c2, rfl, h1, h2⟩ hk; exact ⟨c1, c2, rfl, r.more _ _ _ _ _ h1 hk, s.more _ _ _ _ _ h2 hk⟩

/-- The same cells, read as another type. -/
def Rp.as_ {α β : Type} (r : Rp α) (g : β → α) : Rp β where
 size := r.size
 rep := fun w B x cs => r.rep w B (g x) cs
 ok := fun x => r.ok (g x)
 len := fun w B _ cs h => r.len w B _ cs h
 mono := fun w w' B _ cs h hk => r.mono w w' B _ cs h hk
 more := fun w B B' _ cs h hk => r.more w B B' _ cs h hk

def rpInt : Rp Int where
 size := 1
 rep := fun _ _ n cs => cs = [.int .i64 n]
 ok := I64
 len := by rintro w B a cs rfl; rfl
 mono := by rintro w w' B a cs rfl _; rfl
 more := by rintro w B B' a cs rfl _; rfl

def rpBool : Rp Bool where
 size := 1
 rep := fun _ _ n cs => cs = [.bool n]
 ok := fun _ => True
 len := by rintro w B a cs rfl; rfl
 mono := by rintro w w' B a cs rfl _; rfl
 more := by rintro w B B' a cs rfl _; rfl

def rpStr : Rp ByteArray where
 size := 1
 rep := fun _ _ n cs => cs = [.string n]
 ok := fun s => s.size ≤ maxLen
 len := by rintro w B a cs rfl; rfl
 mono := by rintro w w' B a cs rfl _; rfl
 more := by rintro w B B' a cs rfl _; rfl

theorem Rp.SL.int_at {w : World} {B : Nat} {xs : List Int} {A : Option Addr} {n c k : Nat} (h : rpInt.SL w B xs (.slice A n c)) (hk : k < xs.length) : ∃ b off, A = some ⟨b, off, none⟩ ∧ b < B ∧ w.cell? ⟨b, off + k, none⟩ = some (.int .i64 (xs.getD k 0)) := by
 obtain ⟨b, off, cs, hA, hb, hr, hcs⟩ := h.at_ (List.getElem?_eq_getElem hk)
 refine ⟨b, off, hA, hb, ?_⟩
 cases hr
 have := hcs 0 _ rfl
 simpa [rpInt, List.getD_eq_getElem?_getD, hk] using this

theorem below_drewN {B : Nat} {a w : World} (h : Below B a w) (n : Nat) : Below B a (w.drewN n) := ⟨h.os, h.tape, h.output, h.size, h.block⟩

theorem ownsRow_base {w : World} {B B' : Nat} {e : TypeId} {size : Nat} {v : Value} {n : Nat} {xs : List Value} (h : w.ownsRow B e size v n xs) (hB : B' ≤ B) : w.ownsRow B' e size v n xs := by
 obtain ⟨h1, h2⟩ := h
 refine ⟨h1, ?_⟩
 rcases h2 with h2 | ⟨g, cap, cur, hv, hg, h3⟩
 ·exact .inl h2
 ·exact .inr ⟨g, cap, cur, hv, by omega, h3⟩

theorem Rp.flat_get {α : Type} (f : α → List Value) (n : Nat) (hf : ∀ a, (f a).length = n) : ∀ (xs : List α) (k j : Nat) (x : α), xs[k]? = some x → j < n → (xs.flatMap f)[k * n + j]? = (f x)[j]?
 | [], k, j, x, h, _ => by simp at h
 | y :: ys, 0, j, x, h, hj => by
   simp at h
   subst h
   rw [List.flatMap_cons, Nat.zero_mul, Nat.zero_add, List.getElem?_append_left (by rw [hf]; exact hj)]
 | y :: ys, k + 1, j, x, h, hj => by
   rw [List.getElem?_cons_succ] at h
   rw [List.flatMap_cons, List.getElem?_append_right (by rw [hf, Nat.add_mul]; omega), hf, show (k + 1) * n + j - n = k * n + j from by rw [Nat.add_mul]; omega]
   exact Rp.flat_get f n hf ys k j x h hj

/-- A row of the call's own, of things that lie in cells by themselves, reads as a list. -/
theorem Rp.SL.of_own {α : Type} {r : Rp α} {f : α → List Value} (hr : ∀ (w : World) (B : Nat) (a : α), r.rep w B a (f a)) (hf : ∀ a, (f a).length = r.size) {w : World} {B base : Nat} {e : TypeId} {v : Value} {xs : List α}
 (h : w.ownsRow base e r.size v xs.length (xs.flatMap f)) (hB : w.heap.size ≤ B) : r.SL w B xs v := by
 obtain ⟨h1, h2⟩ := h
 rcases h2 with ⟨rfl, hn⟩ | ⟨g, cap, cur, rfl, _, hh, hnc, hcm, hcs, htk⟩
 ·have : xs = [] := List.eq_nil_of_length_eq_zero hn
  subst this
  exact Rp.SL.nil _ _ _
 ·refine ⟨_, cap, rfl, by omega, hnc, fun hp => ⟨g, 0, rfl, ?_, fun k x hk => ⟨f x, hr _ _ _, fun j u hj => ?_⟩⟩⟩
  ·rcases Nat.lt_or_ge g w.heap.size with hlt | hge
   ·omega
   ·rw [Array.getElem?_eq_none hge] at hh
    cases hh
  ·have hjn : j < r.size := by rw [← hf x]; exact (List.getElem?_eq_some_iff.1 hj).1
   have hg := Rp.flat_get f r.size hf xs k j x hk hjn
   rw [← htk, hj, List.getElem?_take] at hg
   split at hg
   ·rw [Array.getElem?_toList] at hg
    rw [Nat.zero_add]
    simpa [World.cell?, hh] using hg
   ·cases hg

theorem bcell {W w1 : World} (hb : Below W.heap.size W w1) : (∀ b o, b < W.heap.size → w1.cell? ⟨b, o, none⟩ = W.cell? ⟨b, o, none⟩) ∧ (∀ b o, b < W.heap.size → w1.frozen? ⟨b, o, none⟩ = W.frozen? ⟨b, o, none⟩) :=
 ⟨fun b o h => hb.cell (p := ⟨b, o, none⟩) h, fun b o h => hb.frozen (p := ⟨b, o, none⟩) h⟩
theorem below_step {B B' : Nat} {a b c : World} (h : Below B' b c) (k : Below B a b) (hB : B ≤ B') : Below B a c := k.trans (h.mono hB)
theorem bl0 {B : Nat} {w w' : World} (h : Below B w w' := by repeat (first | exact Below.refl _ _ | assumption | refine below_drewN ?_ _ | refine Below.drew ?_ | refine Below.setCell ?_ (by first | omega | (simp; done) | (simp; omega)) _ | refine Below.alloc ?_ (by first | omega | (simp; done) | (simp; omega)) _ | refine below_step (by assumption) ?_ (by first | omega | (simp; done) | (simp; omega)))) : Below B w w' := h

/-! ### What came in: readings opened -/

/-- Whatever reads as a datum of type T is a thing. -/
def Rp.opens {α : Type} (r : Rp α) (P : Program) (T : TypeId) : Prop :=
 P.cellsOf T = r.size ∧ ∀ (H : Type) (enc : TypeId × Value → H) (w : World) (fuel : Nat) (cs : List Value) (x : DataW H × List MemPlace),
  DataW.trod enc P w 0 (fun _ => true) true fuel T cs = some x → ∃ a, r.rep w w.heap.size a cs ∧ r.ok a

theorem opens_int {P : Program} {T : TypeId} (hT : P.underlying T = some (.int .i64)) (hC : P.cellsOf T = 1) : rpInt.opens P T := by
 refine ⟨hC, fun H enc w fuel cs x h => ?_⟩
 obtain ⟨n, rfl, _, hw⟩ := DataW.trod_int hT h
 exact ⟨n, rfl, bounds_i64 hw⟩

theorem opens_bool {P : Program} {T : TypeId} (hT : P.underlying T = some .bool) (hC : P.cellsOf T = 1) : rpBool.opens P T := by
 refine ⟨hC, fun H enc w fuel cs x h => ?_⟩
 obtain ⟨n, rfl, _⟩ := DataW.trod_bool hT h
 exact ⟨n, rfl, trivial⟩

theorem opens_str {P : Program} {T : TypeId} (hT : P.underlying T = some .string) (hC : P.cellsOf T = 1) : rpStr.opens P T := by
 refine ⟨hC, fun H enc w fuel cs x h => ?_⟩
 obtain ⟨n, rfl, _, hs⟩ := DataW.trod_string hT h
 exact ⟨n, rfl, hs⟩

theorem pick_list {α : Type} (n : Nat) (p : Nat → α → Prop) (h : ∀ i, i < n → ∃ a, p i a) : ∃ l : List α, l.length = n ∧ ∀ k x, l[k]? = some x → p k x := by
 induction n with
 | zero => exact ⟨[], rfl, fun k x hk => by simp at hk⟩
 | succ n ih =>
   obtain ⟨l, hl, hp⟩ := ih fun i hi => h i (by omega)
   obtain ⟨a, ha⟩ := h n (by omega)
   refine ⟨l ++ [a], by simp [hl], fun k x hk => ?_⟩
   rcases Nat.lt_or_ge k l.length with hlt | hge
   ·rw [List.getElem?_append_left hlt] at hk
    exact hp k x hk
   ·rw [List.getElem?_append_right hge] at hk
    rcases Nat.eq_zero_or_pos (k - l.length) with h0 | h0
    ·rw [h0] at hk
     simp at hk
     subst hk
     have : k = n := by omega
     subst this
     exact ha
    ·rw [List.getElem?_eq_none (by simp; omega)] at hk
     cases hk

theorem opens_slice {α : Type} {r : Rp α} {P : Program} {T E : TypeId} (hT : P.underlying T = some (.slice E)) (hC : P.cellsOf T = 1) (hpos : 0 < r.size) (hE : r.opens P E) : r.slice.opens P T := by
 refine ⟨hC, fun H enc w fuel cs x h => ?_⟩
 rcases Go.Deep.open_slice hT h with ⟨rfl, _⟩ | ⟨a, len, cap, m, n, D, Pl, rfl, _, hlc, hcm, hm, _, hi⟩
 ·exact ⟨[], ⟨_, rfl, Rp.SL.nil _ _ _⟩, Nat.zero_le _, fun x hx => by cases hx⟩
 ·have hlen : len ≤ m := by simp at hm; omega
  obtain ⟨l, hl, hp⟩ := pick_list (α := α) len (fun i x => ∃ cs', w.cells? 0 (a.add (i * P.cellsOf E)) (P.cellsOf E) = some cs' ∧ r.rep w w.heap.size x cs' ∧ r.ok x) (fun i hi' => by
   obtain ⟨cs', hc', ht'⟩ := hi i (by omega)
   obtain ⟨x, hx, hx'⟩ := hE.2 H enc w n cs' _ ht'
   exact ⟨x, cs', hc', hx, hx'⟩)
  have hok : ∀ x ∈ l, r.ok x := fun x hx => by
   obtain ⟨k, hk, e⟩ := List.mem_iff_getElem.1 hx
   obtain ⟨_, _, _, h3⟩ := hp k x (by rw [List.getElem?_eq_getElem hk, e])
   exact h3
  refine ⟨l, ⟨_, rfl, some a, cap, by rw [hl], by omega, by omega, fun hp0 => ?_⟩, by omega, hok⟩
  obtain ⟨b, off, spot⟩ := a
  have hs : spot = none ∧ b < w.heap.size := by
   have hz : l[0]? = some l[0] := List.getElem?_eq_getElem (by omega)
   obtain ⟨cs', hc', hr, _⟩ := hp 0 _ hz
   obtain ⟨_, hcl, hcell⟩ := World.cells?_some hc'
   have hlen' := r.len _ _ _ _ hr
   have h0 := hcell 0 (by rw [hE.1]; exact hpos)
   rw [List.getElem?_eq_getElem (by omega)] at h0
   simp [Addr.add] at h0
   exact ⟨World.cell?_spot h0, World.block_lt_of_cell? w _ h0⟩
  obtain ⟨rfl, hb⟩ := hs
  refine ⟨b, off, rfl, hb, fun k x hk => ?_⟩
  obtain ⟨cs', hc', hr, _⟩ := hp k x hk
  refine ⟨cs', hr, fun j u hj => ?_⟩
  obtain ⟨_, hcl, hcell⟩ := World.cells?_some hc'
  have hjl : j < cs'.length := (List.getElem?_eq_some_iff.1 hj).1
  have := hcell j (by omega)
  rw [hj] at this
  rw [← this, hE.1]
  congr 1
  unfold Addr.add
  by_cases h1 : k * r.size = 0 <;> by_cases h2 : j = 0 <;> simp [h1, h2]

/-- The fields of a struct, from an offset on. -/
def FieldsOpen {α : Type} (r : Rp α) (P : Program) (fs : List Field) (off : Nat) : Prop :=
 ∀ (H : Type) (enc : TypeId × Value → H) (w : World) (fuel : Nat) (cs : List Value),
  (∀ f ∈ fs, ∃ x, DataW.trod enc P w 0 (fun _ => true) true fuel f.type ((cs.drop f.offset).take (P.cellsOf f.type)) = some x) → ∃ a, r.rep w w.heap.size a ((cs.drop off).take r.size) ∧ r.ok a

theorem fields_one {α : Type} {r : Rp α} {P : Program} {f : Field} {off : Nat} (h : r.opens P f.type) (ho : f.offset = off) : FieldsOpen r P [f] off := by
 intro H enc w fuel cs hf
 obtain ⟨x, hx⟩ := hf f (by simp)
 have := h.2 H enc w fuel _ x hx
 rw [ho, h.1] at this
 exact this

theorem fields_cons {α β : Type} {r : Rp α} {s : Rp β} {P : Program} {f : Field} {fs : List Field} {off : Nat} (h : r.opens P f.type) (ho : f.offset = off) (hs : FieldsOpen s P fs (off + r.size)) :
 FieldsOpen (r.pair s) P (f :: fs) off := by
 intro H enc w fuel cs hf
 obtain ⟨x, hx⟩ := hf f (by simp)
 obtain ⟨a, ha, ha'⟩ := h.2 H enc w fuel _ x hx
 obtain ⟨b, hb, hb'⟩ := hs H enc w fuel cs fun g hg => hf g (by simp [hg])
 rw [ho, h.1] at ha
 refine ⟨(a, b), ⟨_, _, ?_, ha, hb⟩, ha', hb'⟩
 show (cs.drop off).take (r.size + s.size) = _
 rw [List.take_add, List.drop_drop]

theorem opens_struct {α : Type} {r : Rp α} {P : Program} {T : TypeId} {fs : Array Field} (hT : P.underlying T = some (.struct fs)) (hC : P.cellsOf T = r.size) (h : FieldsOpen r P fs.toList 0) : r.opens P T := by
 refine ⟨hC, fun H enc w fuel cs x ht => ?_⟩
 obtain ⟨xs, n, _, _, hlen, hxl, hg⟩ := DataW.trod_struct hT ht
 obtain ⟨a, ha, ha'⟩ := h H enc w n cs fun f hf => by
  obtain ⟨i, hi, e⟩ := List.mem_iff_getElem.1 hf
  have h1 : fs[i]? = some f := by rw [← Array.getElem?_toList, List.getElem?_eq_getElem hi, e]
  have hi' : i < xs.length := by simp at hi; omega
  exact ⟨xs[i], (hg i f h1).trans (List.getElem?_eq_getElem hi')⟩
 refine ⟨a, ?_, ha'⟩
 rw [List.drop_zero, List.take_of_length_le (by omega)] at ha
 exact ha

theorem opens_as {α β : Type} {r : Rp α} {g : β → α} {P : Program} {T : TypeId} (f : α → β) (hg : ∀ a, g (f a) = a) (h : r.opens P T) : (r.as_ g).opens P T := by
 refine ⟨h.1, fun H enc w fuel cs x ht => ?_⟩
 obtain ⟨a, ha, ha'⟩ := h.2 H enc w fuel cs x ht
 exact ⟨f a, by show r.rep _ _ (g (f a)) _; rw [hg]; exact ha, by show r.ok (g (f a)); rw [hg]; exact ha'⟩

/-- An argument. -/
theorem Rp.arg {α : Type} {r : Rp α} {P : Program} {T : TypeId} (h : r.opens P T) {H : Type} {enc : TypeId × Value → H} {w : World} {v : Value} {d : DataW H} {p : List MemPlace} (ht : DataW.Trod enc P w 0 (fun _ => true) true T v d p) :
 ∃ a, r.rep w w.heap.size a v.cells.toList ∧ r.ok a := by
 obtain ⟨fuel, hf⟩ := ht
 exact h.2 H enc w fuel _ _ hf

end Go.Proofs.YtdanebboiekieaaGreatDoor

/- More words: parts of a slice. -/
namespace Go.Proofs.YtdanebboiekieaaGreatDoor
open Go.RowKit
set_option linter.unusedSimpArgs false
set_option linter.unusedVariables false

end Go.Proofs.YtdanebboiekieaaGreatDoor

/- Words for rows of the call's own that are written in place. -/
namespace Go.Proofs.YtdanebboiekieaaGreatDoor
open Go.RowKit
set_option linter.unusedSimpArgs false
set_option linter.unusedVariables false

theorem heap_setCells {g : Nat} {e : TypeId} {fr : Nat × Nat} : ∀ (vs : List Value) (o : Nat) (w : World) (cur : Array Value), w.heap[g]? = some (.cells cur e fr) → o + vs.length ≤ cur.size →
 ∃ cur' : Array Value, (w.setCells g o vs).heap[g]? = some (.cells cur' e fr) ∧ cur'.toList = cur.toList.take o ++ vs ++ cur.toList.drop (o + vs.length)
 | [], o, w, cur, h, _ => ⟨cur, h, by simp⟩
 | v :: r, o, w, cur, h, hl => by
   have h1 : (w.setCell ⟨g, o, none⟩ v).heap[g]? = some (.cells (cur.setIfInBounds o v) e fr) := by
    simp [World.setCell, Array.getElem?_modify, h]
   obtain ⟨cur', h2, h3⟩ := heap_setCells r (o + 1) _ _ h1 (by simp at hl ⊢; omega)
   refine ⟨cur', h2, ?_⟩
   simp only [List.length_cons] at hl
   rw [h3, Array.toList_setIfInBounds]
   have hlen : o < cur.toList.length := by rw [Array.length_toList]; omega
   have e1 : min (o + 1) cur.size = o + 1 := by omega
   have e2 : min o cur.size = o := by omega
   apply List.ext_getElem?
   intro j
   simp only [List.getElem?_append, List.getElem?_take, List.getElem?_drop, List.length_append, List.length_take, List.length_set, List.length_cons, List.getElem?_set, List.getElem?_cons, Array.length_toList, e1, e2]
   by_cases h4 : j < o
   ·simp [h4, show j < o + 1 + r.length from by omega, show j < o + (r.length + 1) from by omega, show j < o + 1 from by omega, show ¬ o = j from by omega]
   ·by_cases h5 : j = o
    ·subst h5
     simp [show j < cur.size from by omega, show j < j + 1 + r.length from by omega]
    ·by_cases h6 : j < o + 1 + r.length
     ·simp [h4, h6, show j < o + (r.length + 1) from by omega, show ¬ j < o + 1 from by omega, show ¬ j - o = 0 from by omega, show j - o - 1 = j - (o + 1) from by omega]
     ·simp [h6, show ¬ j < o + (r.length + 1) from by omega, show ¬ o = o + 1 + r.length + (j - (o + 1 + r.length)) from by omega, show o + (r.length + 1) + (j - (o + (r.length + 1))) = o + 1 + r.length + (j - (o + 1 + r.length)) from by omega]

theorem flat_length {α : Type} (f : α → List Value) (n : Nat) (hf : ∀ a, (f a).length = n) (xs : List α) : (xs.flatMap f).length = xs.length * n := by
 induction xs with
 | nil => simp
 | cons x xs ih => rw [List.flatMap_cons, List.length_append, hf, ih, List.length_cons, Nat.add_mul]; omega

/-- A row of the call's own behind a store of cells within its length. -/
theorem own_setCells {w : World} {base : Nat} {e : TypeId} {size g n cap : Nat} {xs vs : List Value} {o m : Nat} (h : w.ownsRow base e size (.slice (some ⟨g, 0, none⟩) n cap) n xs) (ho : o + vs.length ≤ n * size) (hm : m ≤ n) (ys : List Value) (hy : (xs.take o ++ vs ++ xs.drop (o + vs.length)).take (m * size) = ys) :
 (w.setCells g o vs).ownsRow base e size (.slice (some ⟨g, 0, none⟩) m cap) m ys := by
 obtain ⟨h1, h2⟩ := h
 rcases h2 with ⟨h2, _⟩ | ⟨g', cap', cur, h2, hb, hg, hnc, hcm, hcs, htk⟩
 ·simp at h2
 ·simp only [Value.slice.injEq, Option.some.injEq, Addr.mk.injEq, and_true, true_and] at h2
  obtain ⟨rfl, rfl⟩ := h2
  have hle : n * size ≤ cur.size := by rw [hcs]; exact Nat.mul_le_mul_right _ hnc
  have hmn : m * size ≤ n * size := Nat.mul_le_mul_right _ hm
  obtain ⟨cur', hc', hl'⟩ := heap_setCells vs o w cur hg (by omega)
  have hsz : cur'.size = cur.size := by
   rw [← Array.length_toList, hl']
   simp
   omega
  have hcat : cur'.toList.take (m * size) = ys := by
   rw [← hy, hl', ← htk]
   apply List.ext_getElem?
   intro j
   by_cases hj : j < m * size
   ·simp only [List.getElem?_take, hj, if_true, List.getElem?_append, List.length_append, List.length_take, List.getElem?_drop, List.length_drop, Array.length_toList]
    have e1 : min o cur.size = o := by omega
    have e2 : min o (min (n * size) cur.size) = o := by omega
    simp only [e1, e2]
    by_cases h3 : j < o
    ·simp [h3, show j < o + vs.length from by omega, show j < n * size from by omega]
    ·by_cases h4 : j < o + vs.length
     ·simp [h3, h4]
     ·simp [h4, show o + vs.length + (j - (o + vs.length)) < n * size from by omega]
   ·simp [List.getElem?_take, hj]
  refine ⟨?_, .inr ⟨g, cap, cur', rfl, hb, hc', by omega, hcm, by omega, hcat⟩⟩
  rw [← hcat]
  simp
  omega

theorem grown_of_below {w w' : World} (hb : Below w.heap.size w w') (row : Option Nat) : w.grownBy w' row := ⟨hb.os, hb.tape, hb.output, hb.size, fun k hk _ => hb.block k hk⟩
theorem own_below {w w' : World} {base : Nat} {e : TypeId} {size n : Nat} {v : Value} {xs : List Value} (h : w.ownsRow base e size v n xs) (hb : Below w.heap.size w w') : w'.ownsRow base e size v n xs :=
 h.kept (grown_of_below hb none) (by by_cases e : v.ownBlock = none; exact .inl e; exact .inr e)
theorem own_some {w : World} {base : Nat} {e : TypeId} {size n : Nat} {v : Value} {xs : List Value} (h : w.ownsRow base e size v n xs) (hn : 0 < n) : ∃ g cap, v = .slice (some ⟨g, 0, none⟩) n cap ∧ base ≤ g ∧ g < w.heap.size ∧ n ≤ cap ∧ cap ≤ 9223372036854775807 := by
 have hl := h.lt
 rcases h.2 with ⟨_, h0⟩ | ⟨g, cap, _, rfl, hb, _, h1, h2, _, _⟩
 ·omega
 ·exact ⟨g, cap, rfl, hb, (hl g rfl).2, h1, h2⟩

theorem own_slice {w : World} {base : Nat} {e : TypeId} {size n : Nat} {v : Value} {xs : List Value} (h : w.ownsRow base e size v n xs) : ∃ A c, v = .slice A n c := by
 rcases h.2 with ⟨rfl, rfl⟩ | ⟨g, cap, _, rfl, _⟩
 ·exact ⟨_, _, rfl⟩
 ·exact ⟨_, _, rfl⟩
theorem grown_setCell (w : World) (p : Addr) (u : Value) : w.grownBy (w.setCell p u) (some p.block) := ⟨rfl, rfl, rfl, by simp [World.setCell], fun k _ hne => Below.heap_setCell _ _ _ _ (by rintro rfl; exact hne rfl)⟩
theorem own_setCell_other {w : World} {base : Nat} {e : TypeId} {size n : Nat} {v : Value} {xs : List Value} (h : w.ownsRow base e size v n xs) {p : Addr} (hp : v.ownBlock ≠ some p.block) (u : Value) : (w.setCell p u).ownsRow base e size v n xs :=
 h.kept (grown_setCell w p u) (.inr hp)
theorem block_set {w : World} {g j : Nat} {cs : Array Value} {e : TypeId} (h : w.heap[g]? = some (.cells cs e (0, 0))) (u : Value) : (w.setCell ⟨g, j, none⟩ u).heap[g]? = some (.cells (cs.setIfInBounds j u) e (0, 0)) := by
 simp [World.setCell, Array.getElem?_modify, h]

end Go.Proofs.YtdanebboiekieaaGreatDoor

/- Words for rows of the call's own whose elements lead on to other memory: what has been built so far, and one more. -/
namespace Go.Proofs.YtdanebboiekieaaGreatDoor
open Go.RowKit
set_option linter.unusedSimpArgs false
set_option linter.unusedVariables false

/-- Of a world the blocks of a set alone; all others are empty. -/
def only (w : World) (S : Nat → Bool) : World := { w with heap := Array.ofFn (n := w.heap.size) fun i => if S i then w.heap[i] else .cells #[] 0 (0, 0) }
theorem only_size (w : World) (S : Nat → Bool) : (only w S).heap.size = w.heap.size := by simp [only]
theorem only_heap (w : World) (S : Nat → Bool) (k : Nat) (h : S k = true) : (only w S).heap[k]? = w.heap[k]? := by
 simp only [only, Array.getElem?_ofFn]
 by_cases hk : k < w.heap.size
 ·rw [dif_pos hk, if_pos h, Array.getElem?_eq_getElem hk]
  rfl
 ·rw [dif_neg hk, Array.getElem?_eq_none (by omega)]
theorem only_cell_of (w : World) (S : Nat → Bool) (p : Addr) (h : S p.block = true) : (only w S).cell? p = w.cell? p := World.cell?_of_block (only_heap w S p.block h)
theorem only_cell {w : World} {S : Nat → Bool} {p : Addr} {u : Value} (h : (only w S).cell? p = some u) : w.cell? p = some u ∧ S p.block = true := by
 cases hS : S p.block
 ·exfalso
  unfold World.cell? at h
  simp only [only, Array.getElem?_ofFn] at h
  by_cases hk : p.block < w.heap.size
  ·rw [dif_pos hk] at h
   simp [hS] at h
  ·rw [dif_neg hk] at h
   cases h
 ·rw [only_cell_of w S p hS] at h
  exact ⟨h, rfl⟩
theorem ownsRow_only {w : World} {base : Nat} {e : TypeId} {size : Nat} {v : Value} {n : Nat} {xs : List Value} (h : w.ownsRow base e size v n xs) : (only w fun k => decide (base ≤ k)).ownsRow base e size v n xs := by
 obtain ⟨h1, h2⟩ := h
 refine ⟨h1, ?_⟩
 rcases h2 with h2 | ⟨g, cap, cur, hv, hg, hh, r⟩
 ·exact .inl h2
 ·exact .inr ⟨g, cap, cur, hv, hg, by rw [only_heap _ _ _ (by simpa using hg)]; exact hh, r⟩

theorem flatten_get (n : Nat) : ∀ (css : List (List Value)), (∀ cs ∈ css, cs.length = n) → ∀ (k j : Nat) (cs : List Value), css[k]? = some cs → j < n → css.flatten[k * n + j]? = cs[j]?
 | [], _, k, j, x, h, _ => by simp at h
 | y :: ys, hf, 0, j, x, h, hj => by
   simp at h
   subst h
   rw [List.flatten_cons, Nat.zero_mul, Nat.zero_add, List.getElem?_append_left (by rw [hf y (by simp)]; exact hj)]
 | y :: ys, hf, k + 1, j, x, h, hj => by
   rw [List.getElem?_cons_succ] at h
   have hy := hf y (by simp)
   rw [List.flatten_cons, List.getElem?_append_right (by rw [hy, Nat.add_mul]; omega), hy, show (k + 1) * n + j - n = k * n + j from by rw [Nat.add_mul]; omega]
   exact flatten_get n ys (fun cs hc => hf cs (by simp [hc])) k j x h hj

/-- Cells that say a thing in a part of a world: in none of the blocks X, and not in the row v. -/
def Apart {α : Type} (r : Rp α) (X : Nat → Prop) (w : World) (v : Value) (x : α) (cs : List Value) : Prop :=
 ∃ w0 : World, r.rep w0 w.heap.size x cs ∧ ∀ (p : Addr) u, w0.cell? p = some u → w.cell? p = some u ∧ ¬ X p.block ∧ v.ownBlock ≠ some p.block

/-- A row of the call's own that reads as a list; X: blocks of the walk that may be written. -/
structure Built {α : Type} (r : Rp α) (base : Nat) (e : TypeId) (X : Nat → Prop) (w : World) (v : Value) (xs : List α) (css : List (List Value)) : Prop where
 len : css.length = xs.length
 own : w.ownsRow base e r.size v xs.length css.flatten
 each : ∀ (k : Nat) (x : α) cs, xs[k]? = some x → css[k]? = some cs → Apart r X w v x cs
 far : ∀ k, X k → k < base

theorem Built.nil {α : Type} (r : Rp α) (base : Nat) (e : TypeId) (X : Nat → Prop) (w : World) (hX : ∀ k, X k → k < base) : Built r base e X w (.slice none 0 0) [] [] :=
 ⟨rfl, World.ownsRow_nil _ _ _ _, fun k x cs h => by simp at h, hX⟩

theorem Apart.keep {α : Type} {r : Rp α} {X : Nat → Prop} {w w' : World} {v : Value} {x : α} {cs : List Value} (h : Apart r X w v x cs) (hs : w.heap.size ≤ w'.heap.size) (hk : ∀ k, k < w.heap.size → ¬ X k → v.ownBlock ≠ some k → w'.heap[k]? = w.heap[k]?) :
 Apart r X w' v x cs := by
 obtain ⟨w0, h1, h2⟩ := h
 refine ⟨w0, r.more _ _ _ _ _ h1 hs, fun p u hp => ?_⟩
 obtain ⟨h3, h4, h5⟩ := h2 p u hp
 have hl : p.block < w.heap.size := World.block_lt_of_cell? w _ h3
 exact ⟨(World.cell?_of_block (hk _ hl h4 h5)).trans h3, h4, h5⟩

theorem Built.keep {α : Type} {r : Rp α} {base : Nat} {e : TypeId} {X : Nat → Prop} {w w' : World} {v : Value} {xs : List α} {css : List (List Value)} (h : Built r base e X w v xs css) (hs : w.heap.size ≤ w'.heap.size) (hk : ∀ k, k < w.heap.size → ¬ X k → w'.heap[k]? = w.heap[k]?) :
 Built r base e X w' v xs css := by
 refine ⟨h.len, ?_, fun k x cs h1 h2 => (h.each k x cs h1 h2).keep hs fun k hl hx _ => hk k hl hx, h.far⟩
 obtain ⟨h1, h2⟩ := h.own
 refine ⟨h1, ?_⟩
 rcases h2 with h2 | ⟨g, cap, cur, hv, hg, hh, rest⟩
 ·exact .inl h2
 ·refine .inr ⟨g, cap, cur, hv, hg, ?_, rest⟩
  rw [hk g (Array.getElem?_eq_some_iff.1 hh).1 (fun hx => by have := h.far g hx; omega)]
  exact hh

theorem Built.below {α : Type} {r : Rp α} {base B : Nat} {e : TypeId} {X : Nat → Prop} {w w' : World} {v : Value} {xs : List α} {css : List (List Value)} (h : Built r base e X w v xs css) (hb : Below B w w') (hB : w.heap.size ≤ B) : Built r base e X w' v xs css :=
 h.keep hb.size fun k hk _ => hb.block k (by omega)
theorem Built.alloc {α : Type} {r : Rp α} {base : Nat} {e : TypeId} {X : Nat → Prop} {w : World} {v : Value} {xs : List α} {css : List (List Value)} (h : Built r base e X w v xs css) (o : Obj) : Built r base e X (w.alloc o) v xs css :=
 h.below ((Below.refl _ _).alloc (Nat.le_refl _) o) (Nat.le_refl _)
theorem Built.push {α : Type} {r : Rp α} {base : Nat} {e : TypeId} {X : Nat → Prop} {w w1 : World} {v : Value} {xs : List α} {css : List (List Value)} (h : Built r base e X w v xs css) {x : α} {cs : List Value} {g cap n : Nat}
 (hown : w1.ownsRow base e r.size (.slice (some ⟨g, 0, none⟩) n cap) n (css.flatten ++ cs)) (hn : n = xs.length + 1) (hg : w.grownBy w1 v.ownBlock) (hat : v.ownBlock = some g ∨ g = w.heap.size) (hx : Apart r X w v x cs) :
 Built r base e X w1 (.slice (some ⟨g, 0, none⟩) n cap) (xs ++ [x]) (css ++ [cs]) := by
 subst hn
 have hap : ∀ (y : α) (ds : List Value), Apart r X w v y ds → Apart r X w1 (.slice (some ⟨g, 0, none⟩) (xs.length + 1) cap) y ds := by
  rintro y ds ⟨w0, h1, h2⟩
  refine ⟨w0, r.more _ _ _ _ _ h1 hg.size, fun p u hp => ?_⟩
  obtain ⟨h3, h4, h5⟩ := h2 p u hp
  have hl : p.block < w.heap.size := World.block_lt_of_cell? w _ h3
  refine ⟨(World.cell?_of_block (hg.block _ hl (fun e => h5 e.symm))).trans h3, h4, ?_⟩
  rcases hat with e | e
  ·rw [e] at h5
   simpa [Value.ownBlock] using h5
  ·simp [Value.ownBlock]
   omega
 refine ⟨by simp [h.len], by simpa using hown, fun k y ds h1 h2 => ?_, h.far⟩
 rcases Nat.lt_or_ge k xs.length with hlt | hge
 ·rw [List.getElem?_append_left hlt] at h1
  rw [List.getElem?_append_left (by rw [h.len]; exact hlt)] at h2
  exact hap _ _ (h.each k y ds h1 h2)
 ·rw [List.getElem?_append_right hge] at h1
  rw [List.getElem?_append_right (by rw [h.len]; exact hge), h.len] at h2
  rcases Nat.eq_zero_or_pos (k - xs.length) with h0 | h0
  ·rw [h0] at h1 h2
   simp at h1 h2
   subst h1 h2
   exact hap _ _ hx
  ·rw [List.getElem?_eq_none (by simp; omega)] at h1
   cases h1

theorem Built.SL {α : Type} {r : Rp α} {base B : Nat} {e : TypeId} {X : Nat → Prop} {w : World} {v : Value} {xs : List α} {css : List (List Value)} (h : Built r base e X w v xs css) (hB : w.heap.size ≤ B) : r.SL w B xs v := by
 have hr : ∀ k x cs, xs[k]? = some x → css[k]? = some cs → r.rep w B x cs := fun k x cs h1 h2 => by
  obtain ⟨w0, h3, h4⟩ := h.each k x cs h1 h2
  exact r.more _ _ _ _ _ (r.mono _ _ _ _ _ h3 fun p u _ hp => (h4 p u hp).1) hB
 have hlen : ∀ cs ∈ css, cs.length = r.size := fun cs hc => by
  obtain ⟨k, hk, e⟩ := List.mem_iff_getElem.1 hc
  have hk' : k < xs.length := by rw [← h.len]; exact hk
  have e' : css[k]? = some cs := by rw [List.getElem?_eq_getElem hk, e]
  exact r.len _ _ _ _ (hr k _ cs (List.getElem?_eq_getElem hk') e')
 obtain ⟨h1, h2⟩ := h.own
 rcases h2 with ⟨rfl, hn⟩ | ⟨g, cap, cur, rfl, _, hh, hnc, hcm, hcs, htk⟩
 ·have : xs = [] := List.eq_nil_of_length_eq_zero hn
  subst this
  exact Rp.SL.nil _ _ _
 ·refine ⟨_, cap, rfl, by omega, hnc, fun hp => ⟨g, 0, rfl, ?_, fun k x hk => ?_⟩⟩
  ·have := (Array.getElem?_eq_some_iff.1 hh).1
   omega
  ·have hkl : k < css.length := by rw [h.len]; exact (List.getElem?_eq_some_iff.1 hk).1
   have hk2 : css[k]? = some css[k] := List.getElem?_eq_getElem hkl
   refine ⟨css[k], hr k x _ hk hk2, fun j u hj => ?_⟩
   have hjn : j < r.size := by rw [← hlen css[k] (List.getElem_mem hkl)]; exact (List.getElem?_eq_some_iff.1 hj).1
   have hg := flatten_get r.size css hlen k j _ hk2 hjn
   rw [← htk, hj, List.getElem?_take] at hg
   split at hg
   ·rw [Array.getElem?_toList] at hg
    rw [Nat.zero_add]
    simpa [World.cell?, hh] using hg
   ·cases hg

/-- Cells that lead nowhere, or into blocks from base on alone, are apart from a row below base. -/
theorem Apart.of_only {α : Type} {r : Rp α} {X : Nat → Prop} {w : World} {v : Value} {x : α} {cs : List Value} {base : Nat} (h : r.rep (only w fun k => decide (base ≤ k)) w.heap.size x cs) (hX : ∀ k, X k → k < base) (hv : ∀ g, v.ownBlock = some g → g < base) : Apart r X w v x cs := by
 refine ⟨_, h, fun p u hp => ?_⟩
 obtain ⟨h1, h2⟩ := only_cell hp
 simp at h2
 refine ⟨h1, fun hx => by have := hX _ hx; omega, fun e => by have := hv _ e; omega⟩
/-- The cells of a slice of plain things, as a row that is appended from. -/
theorem Rp.SL.news {α : Type} {r : Rp α} {f : α → List Value} (hr : ∀ w B a cs, r.rep w B a cs → cs = f a) (hf : ∀ a, (f a).length = r.size) (hpos : 0 < r.size) {w : World} {B : Nat} {xs : List α} {a : Addr} {n c : Nat} (h : r.SL w B xs (.slice (some a) n c)) :
 ∀ j u, (xs.flatMap f)[j]? = some u → w.cell? (a.add j) = some u := by
 intro j u hj
 have hlt : j < xs.length * r.size := by
  have := (List.getElem?_eq_some_iff.1 hj).1
  rwa [flat_length f r.size hf] at this
 have hk : j / r.size < xs.length := by rw [Nat.div_lt_iff_lt_mul hpos]; exact hlt
 obtain ⟨b', off', cs, hA, _, hrep, hcs⟩ := h.at_ (List.getElem?_eq_getElem hk)
 injection hA with hA
 subst hA
 have := hr _ _ _ _ hrep
 subst this
 have hm : j % r.size < r.size := Nat.mod_lt _ hpos
 have hg := Rp.flat_get f r.size hf xs (j / r.size) (j % r.size) _ (List.getElem?_eq_getElem hk) hm
 have he : j / r.size * r.size + j % r.size = j := by rw [Nat.mul_comm]; exact Nat.div_add_mod j r.size
 rw [he, hj] at hg
 have := hcs (j % r.size) u hg.symm
 rw [Nat.add_assoc, he] at this
 rw [← this]
 unfold Addr.add
 by_cases h0 : j = 0 <;> simp [h0]

theorem addr_block (a : Addr) (j : Nat) : (a.add j).block = a.block := by unfold Addr.add; split <;> rfl

/-- A slice that reads as a list by blocks from b on alone. -/
def Rp.SLF {α : Type} (r : Rp α) (w : World) (b B : Nat) (xs : List α) (v : Value) : Prop := r.SL (only w fun k => decide (b ≤ k)) B xs v
theorem Rp.SLF.SL {α : Type} {r : Rp α} {w : World} {b B : Nat} {xs : List α} {v : Value} (h : r.SLF w b B xs v) : r.SL w B xs v := h.mono fun p u _ hp => (only_cell hp).1
theorem Rp.SLF.more {α : Type} {r : Rp α} {w : World} {b b' B B' : Nat} {xs : List α} {v : Value} (h : r.SLF w b B xs v) (hb : b' ≤ b) (hB : B ≤ B') : r.SLF w b' B' xs v := by
 refine Rp.SL.more (Rp.SL.mono (show r.SL _ B xs v from h) fun p u _ hp => ?_) hB
 obtain ⟨h1, h2⟩ := only_cell hp
 rw [only_cell_of _ _ _ (by simp at h2 ⊢; omega)]
 exact h1
theorem Rp.SLF.keep {α : Type} {r : Rp α} {w w' : World} {b B : Nat} {xs : List α} {v : Value} (h : r.SLF w b B xs v) (hk : ∀ k, b ≤ k → k < w.heap.size → w'.heap[k]? = w.heap[k]?) : r.SLF w' b B xs v := by
 refine Rp.SL.mono (show r.SL _ B xs v from h) fun p u _ hp => ?_
 obtain ⟨h1, h2⟩ := only_cell hp
 rw [only_cell_of _ _ _ h2]
 exact (World.cell?_of_block (hk _ (by simpa using h2) (World.block_lt_of_cell? w _ h1))).trans h1
theorem Rp.SLF.below {α : Type} {r : Rp α} {w w' : World} {b B B' : Nat} {xs : List α} {v : Value} (h : r.SLF w b B xs v) (hb : Below B' w w') (hB : w.heap.size ≤ B') : r.SLF w' b B xs v := h.keep fun k _ hk => hb.block k (by omega)
theorem Rp.SLF.setCell {α : Type} {r : Rp α} {w : World} {b B : Nat} {xs : List α} {v : Value} (h : r.SLF w b B xs v) (p : Addr) (hp : p.block < b) (u : Value) : r.SLF (w.setCell p u) b B xs v := h.keep fun k hk _ => Below.heap_setCell _ _ _ _ (by omega)
theorem Rp.SLF.nil {α : Type} (r : Rp α) (w : World) (b B : Nat) : r.SLF w b B [] (.slice none 0 0) := Rp.SL.nil _ _ _
theorem Rp.SLF.cases_ {α : Type} {r : Rp α} {w : World} {b B : Nat} {xs : List α} {v : Value} (h : r.SLF w b B xs v) : ∃ A c, v = .slice A xs.length c ∧ xs.length ≤ 9223372036854775807 ∧ xs.length ≤ c ∧ r.SLF w b B xs (.slice A xs.length c) := Rp.SL.cases_ h
theorem Built.SLF {α : Type} {r : Rp α} {base b B : Nat} {e : TypeId} {X : Nat → Prop} {w : World} {v : Value} {xs : List α} {css : List (List Value)} (h : Built r base e X w v xs css) (hX : ∀ k, k < b → X k) (hb : b ≤ base) (hB : w.heap.size ≤ B) : r.SLF w b B xs v := by
 have h' : Built r base e X (only w fun k => decide (b ≤ k)) v xs css := by
  refine ⟨h.len, ?_, fun k x cs h1 h2 => ?_, h.far⟩
  ·obtain ⟨h1, h2⟩ := h.own
   refine ⟨h1, ?_⟩
   rcases h2 with h2 | ⟨g, cap, cur, hv, hg, hh, rest⟩
   ·exact .inl h2
   ·exact .inr ⟨g, cap, cur, hv, hg, by rw [only_heap _ _ _ (by simp; omega)]; exact hh, rest⟩
  ·obtain ⟨w0, h3, h4⟩ := h.each k x cs h1 h2
   refine ⟨w0, by rw [only_size]; exact h3, fun p u hp => ?_⟩
   obtain ⟨h5, h6, h7⟩ := h4 p u hp
   refine ⟨?_, h6, h7⟩
   rw [only_cell_of _ _ _ (by
    rcases Nat.lt_or_ge p.block b with hlt | hge
    ·exact absurd (hX _ hlt) h6
    ·simpa using hge)]
   exact h5
 exact h'.SL (by rw [only_size]; exact hB)
end Go.Proofs.YtdanebboiekieaaGreatDoor

/- Bytes and texts: string(b) of a slice that reads as a list of bytes. -/
namespace Go.Proofs.YtdanebboiekieaaGreatDoor
open Go.RowKit
set_option linter.unusedSimpArgs false
set_option linter.unusedVariables false

end Go.Proofs.YtdanebboiekieaaGreatDoor
