/-
  Words for memory that all walks of this family of claims use: a slice that reads as a list of typed things, whatever lies beyond it; what a fresh row of the call's own holds.
-/
import Derived.WalkKit
import Derived.WalkSpells
import Derived.WalkLawsBesides
import Derived.Deep.QuietTactic
import Derived.BigQuiet
import Derived.BigGuardPart
import Derived.Lib.Hide
import Derived.Deep.RegionHeld3
import Derived.Deep.AppendLies
import Derived.StillTailTactics
import Derived.ProofKit
import Derived.OpenShut
import Derived.ChangeOld
import Derived.Deep.Slices
import Derived.Deep.Fields
namespace Go.Proofs.YtkodcoianakjoaaDoor
open Go.RowKit Go.ChangeShapes Go.WideShapes Go.Deep
set_option linter.unusedSimpArgs false
set_option linter.unusedVariables false

/-- A number that fits an int. -/
def I64 (n : Int) : Prop := -9223372036854775808 ≤ n ∧ n ≤ 9223372036854775807

/-- How things of a type lie in cells: how many, what these hold (all memory that they lead to lies below block B), and which things fit. -/
structure Rp (α : Type) where
  size : Nat
  rep : World → Nat → α → List Value → Prop
  ok : α → Prop
  len : ∀ w B a cs, rep w B a cs → cs.length = size
  mono : ∀ w w' B a cs, rep w B a cs → (∀ (p : Addr) u, p.block < B → w.cell? p = some u → w'.cell? p = some u) → rep w' B a cs
  more : ∀ w B B' a cs, rep w B a cs → B ≤ B' → rep w B' a cs

theorem Rp.keep {α : Type} (r : Rp α) : ∀ w w' B a cs, r.rep w B a cs → (∀ p : Addr, p.block < B → w'.cell? p = w.cell? p) → r.rep w' B a cs :=
  fun w w' B a cs h hk => r.mono w w' B a cs h fun p u hp hc => (hk p hp).trans hc

/-- A slice that reads as a list, for reading only. -/
def Rp.SL {α : Type} (r : Rp α) (w : World) (B : Nat) (xs : List α) (v : Value) : Prop :=
  ∃ A c, v = .slice A xs.length c ∧ xs.length ≤ maxLen ∧ xs.length ≤ c ∧ (0 < xs.length → ∃ b off, A = some ⟨b, off, none⟩ ∧ b < B ∧
    ∀ k x, xs[k]? = some x → ∃ cs, r.rep w B x cs ∧ ∀ j u, cs[j]? = some u → w.cell? ⟨b, off + k * r.size + j, none⟩ = some u)

theorem Rp.SL.mono {α : Type} {r : Rp α} {w w' : World} {B : Nat} {xs : List α} {v : Value} (h : r.SL w B xs v) (hk : ∀ (p : Addr) u, p.block < B → w.cell? p = some u → w'.cell? p = some u) : r.SL w' B xs v := by
  obtain ⟨A, c, hv, hl, hc, h⟩ := h
  refine ⟨A, c, hv, hl, hc, fun hp => ?_⟩
  obtain ⟨b, off, hA, hb, hx⟩ := h hp
  refine ⟨b, off, hA, hb, fun k x hk' => ?_⟩
  obtain ⟨cs, hr, hcs⟩ := hx k x hk'
  exact ⟨cs, r.mono _ _ _ _ _ hr hk, fun j u hj => hk _ _ hb (hcs j u hj)⟩
theorem Rp.SL.keep {α : Type} {r : Rp α} {w w' : World} {B : Nat} {xs : List α} {v : Value} (h : r.SL w B xs v) (hk : ∀ p : Addr, p.block < B → w'.cell? p = w.cell? p) : r.SL w' B xs v :=
  h.mono fun p u hp hc => (hk p hp).trans hc

theorem Rp.SL.more {α : Type} {r : Rp α} {w : World} {B B' : Nat} {xs : List α} {v : Value} (h : r.SL w B xs v) (hB : B ≤ B') : r.SL w B' xs v := by
  obtain ⟨A, c, hv, hl, hc, h⟩ := h
  refine ⟨A, c, hv, hl, hc, fun hp => ?_⟩
  obtain ⟨b, off, hA, hb, hx⟩ := h hp
  refine ⟨b, off, hA, by omega, fun k x hk' => ?_⟩
  obtain ⟨cs, hr, hcs⟩ := hx k x hk'
  exact ⟨cs, r.more _ _ _ _ _ hr hB, hcs⟩

theorem Rp.SL.below {α : Type} {r : Rp α} {w w' : World} {B : Nat} {xs : List α} {v : Value} (h : r.SL w B xs v) (hb : Below B w w') : r.SL w' B xs v := h.keep fun _ hp => hb.cell hp
theorem Rp.SL.up {α : Type} {r : Rp α} {w w' : World} {B B' : Nat} {xs : List α} {v : Value} (h : r.SL w B xs v) (hb : Below B w w') (hB : B ≤ B') : r.SL w' B' xs v := (h.below hb).more hB
theorem Rp.SL.nil {α : Type} (r : Rp α) (w : World) (B : Nat) : r.SL w B [] (.slice none 0 0) := ⟨none, 0, rfl, Nat.zero_le _, Nat.le_refl _, fun h => absurd h (Nat.lt_irrefl 0)⟩
theorem Rp.SL.len {α : Type} {r : Rp α} {w : World} {B : Nat} {xs : List α} {A : Option Addr} {n c : Nat} (h : r.SL w B xs (.slice A n c)) : n = xs.length := by
  obtain ⟨A', c', hv, _⟩ := h
  injection hv
theorem Rp.SL.max {α : Type} {r : Rp α} {w : World} {B : Nat} {xs : List α} {v : Value} (h : r.SL w B xs v) : xs.length ≤ maxLen := by
  obtain ⟨A', c', hv, h, _⟩ := h
  exact h

/-- What stands at place k. -/
theorem Rp.SL.at_ {α : Type} {r : Rp α} {w : World} {B : Nat} {xs : List α} {A : Option Addr} {n c : Nat} (h : r.SL w B xs (.slice A n c)) {k : Nat} {x : α} (hk : xs[k]? = some x) :
    ∃ b off cs, A = some ⟨b, off, none⟩ ∧ b < B ∧ r.rep w B x cs ∧ ∀ j u, cs[j]? = some u → w.cell? ⟨b, off + k * r.size + j, none⟩ = some u := by
  obtain ⟨A', c', hv, _, _, h⟩ := h
  injection hv with hA hn hc
  subst hA
  have hlt : k < xs.length := (List.getElem?_eq_some_iff.1 hk).1
  obtain ⟨b, off, hA, hb, hx⟩ := h (by omega)
  obtain ⟨cs, hr, hcs⟩ := hx k x hk
  exact ⟨b, off, cs, hA, hb, hr, hcs⟩

theorem Rp.SL.cases_ {α : Type} {r : Rp α} {w : World} {B : Nat} {xs : List α} {v : Value} (h : r.SL w B xs v) : ∃ A c, v = .slice A xs.length c ∧ xs.length ≤ 9223372036854775807 ∧ xs.length ≤ c ∧ r.SL w B xs (.slice A xs.length c) := by
  obtain ⟨A, c, rfl, hl, hc, h'⟩ := h
  exact ⟨A, c, rfl, hl, hc, A, c, rfl, hl, hc, h'⟩

/-- A list of things, as one cell: a slice. -/
def Rp.slice {α : Type} (r : Rp α) : Rp (List α) where
  size := 1
  rep := fun w B xs cs => ∃ v, cs = [v] ∧ r.SL w B xs v
  ok := fun xs => xs.length ≤ maxLen ∧ ∀ x ∈ xs, r.ok x
  len := by rintro w B a cs ⟨v, rfl, _⟩; rfl
  mono := by rintro w w' B a cs ⟨v, rfl, h⟩ hk; exact ⟨v, rfl, h.mono hk⟩
  more := by rintro w B B' a cs ⟨v, rfl, h⟩ hk; exact ⟨v, rfl, h.more hk⟩

/-- Two things, one behind the other. -/
def Rp.pair {α β : Type} (r : Rp α) (s : Rp β) : Rp (α × β) where
  size := r.size + s.size
  rep := fun w B x cs => ∃ c1 c2, cs = c1 ++ c2 ∧ r.rep w B x.1 c1 ∧ s.rep w B x.2 c2
  ok := fun x => r.ok x.1 ∧ s.ok x.2
  len := by rintro w B a cs ⟨c1, c2, rfl, h1, h2⟩; rw [List.length_append, r.len _ _ _ _ h1, s.len _ _ _ _ h2]
  mono := by rintro w w' B a cs ⟨c1, c2, rfl, h1, h2⟩ hk; exact ⟨c1, c2, rfl, r.mono _ _ _ _ _ h1 hk, s.mono _ _ _ _ _ h2 hk⟩
  more := by rintro w B B' a cs ⟨c1, c2, rfl, h1, h2⟩ hk; exact ⟨c1, c2, rfl, r.more _ _ _ _ _ h1 hk, s.more _ _ _ _ _ h2 hk⟩

/-- The same cells, read as another type. -/
def Rp.as_ {α β : Type} (r : Rp α) (g : β → α) : Rp β where
  size := r.size
  rep := fun w B x cs => r.rep w B (g x) cs
  ok := fun x => r.ok (g x)
  len := fun w B _ cs h => r.len w B _ cs h
  mono := fun w w' B _ cs h hk => r.mono w w' B _ cs h hk
  more := fun w B B' _ cs h hk => r.more w B B' _ cs h hk

def rpInt : Rp Int where
  size := 1
  rep := fun _ _ n cs => cs = [.int .i64 n]
  ok := I64
  len := by rintro w B a cs rfl; rfl
  mono := by rintro w w' B a cs rfl _; rfl
  more := by rintro w B B' a cs rfl _; rfl

def rpByte : Rp UInt8 where
  size := 1
  rep := fun _ _ n cs => cs = [.int .u8 n.toNat]
  ok := fun _ => True
  len := by rintro w B a cs rfl; rfl
  mono := by rintro w w' B a cs rfl _; rfl
  more := by rintro w B B' a cs rfl _; rfl

def rpBool : Rp Bool where
  size := 1
  rep := fun _ _ n cs => cs = [.bool n]
  ok := fun _ => True
  len := by rintro w B a cs rfl; rfl
  mono := by rintro w w' B a cs rfl _; rfl
  more := by rintro w B B' a cs rfl _; rfl

def rpStr : Rp ByteArray where
  size := 1
  rep := fun _ _ n cs => cs = [.string n]
  ok := fun s => s.size ≤ maxLen
  len := by rintro w B a cs rfl; rfl
  mono := by rintro w w' B a cs rfl _; rfl
  more := by rintro w B B' a cs rfl _; rfl

theorem Rp.SL.int_at {w : World} {B : Nat} {xs : List Int} {A : Option Addr} {n c k : Nat} (h : rpInt.SL w B xs (.slice A n c)) (hk : k < xs.length) : ∃ b off, A = some ⟨b, off, none⟩ ∧ b < B ∧ w.cell? ⟨b, off + k, none⟩ = some (.int .i64 (xs.getD k 0)) := by
  obtain ⟨b, off, cs, hA, hb, hr, hcs⟩ := h.at_ (List.getElem?_eq_getElem hk)
  refine ⟨b, off, hA, hb, ?_⟩
  cases hr
  have := hcs 0 _ rfl
  simpa [rpInt, List.getD_eq_getElem?_getD, hk] using this

theorem below_drewN {B : Nat} {a w : World} (h : Below B a w) (n : Nat) : Below B a (w.drewN n) := ⟨h.os, h.tape, h.output, h.size, h.block⟩

theorem ownsRow_base {w : World} {B B' : Nat} {e : TypeId} {size : Nat} {v : Value} {n : Nat} {xs : List Value} (h : w.ownsRow B e size v n xs) (hB : B' ≤ B) : w.ownsRow B' e size v n xs := by
  obtain ⟨h1, h2⟩ := h
  refine ⟨h1, ?_⟩
  rcases h2 with h2 | ⟨g, cap, cur, hv, hg, h3⟩
  · exact .inl h2
  · exact .inr ⟨g, cap, cur, hv, by omega, h3⟩

theorem Rp.flat_get {α : Type} (f : α → List Value) (n : Nat) (hf : ∀ a, (f a).length = n) : ∀ (xs : List α) (k j : Nat) (x : α), xs[k]? = some x → j < n → (xs.flatMap f)[k * n + j]? = (f x)[j]?
  | [], k, j, x, h, _ => by simp at h
  | y :: ys, 0, j, x, h, hj => by
    simp at h
    subst h
    rw [List.flatMap_cons, Nat.zero_mul, Nat.zero_add, List.getElem?_append_left (by rw [hf]; exact hj)]
  | y :: ys, k + 1, j, x, h, hj => by
    rw [List.getElem?_cons_succ] at h
    rw [List.flatMap_cons, List.getElem?_append_right (by rw [hf, Nat.add_mul]; omega), hf, show (k + 1) * n + j - n = k * n + j from by rw [Nat.add_mul]; omega]
    exact Rp.flat_get f n hf ys k j x h hj

/-- A row of the call's own, of things that lie in cells by themselves, reads as a list. -/
theorem Rp.SL.of_own {α : Type} {r : Rp α} {f : α → List Value} (hr : ∀ (w : World) (B : Nat) (a : α), r.rep w B a (f a)) (hf : ∀ a, (f a).length = r.size) {w : World} {B base : Nat} {e : TypeId} {v : Value} {xs : List α}
    (h : w.ownsRow base e r.size v xs.length (xs.flatMap f)) (hB : w.heap.size ≤ B) : r.SL w B xs v := by
  obtain ⟨h1, h2⟩ := h
  rcases h2 with ⟨rfl, hn⟩ | ⟨g, cap, cur, rfl, _, hh, hnc, hcm, hcs, htk⟩
  · have : xs = [] := List.eq_nil_of_length_eq_zero hn
    subst this
    exact Rp.SL.nil _ _ _
  · refine ⟨_, cap, rfl, by omega, hnc, fun hp => ⟨g, 0, rfl, ?_, fun k x hk => ⟨f x, hr _ _ _, fun j u hj => ?_⟩⟩⟩
    · rcases Nat.lt_or_ge g w.heap.size with hlt | hge
      · omega
      · rw [Array.getElem?_eq_none hge] at hh
        cases hh
    · have hjn : j < r.size := by rw [← hf x]; exact (List.getElem?_eq_some_iff.1 hj).1
      have hg := Rp.flat_get f r.size hf xs k j x hk hjn
      rw [← htk, hj, List.getElem?_take] at hg
      split at hg
      · rw [Array.getElem?_toList] at hg
        rw [Nat.zero_add]
        simpa [World.cell?, hh] using hg
      · cases hg

theorem bcell {W w1 : World} (hb : Below W.heap.size W w1) : (∀ b o, b < W.heap.size → w1.cell? ⟨b, o, none⟩ = W.cell? ⟨b, o, none⟩) ∧ (∀ b o, b < W.heap.size → w1.frozen? ⟨b, o, none⟩ = W.frozen? ⟨b, o, none⟩) :=
  ⟨fun b o h => hb.cell (p := ⟨b, o, none⟩) h, fun b o h => hb.frozen (p := ⟨b, o, none⟩) h⟩
theorem below_step {B B' : Nat} {a b c : World} (h : Below B' b c) (k : Below B a b) (hB : B ≤ B') : Below B a c := k.trans (h.mono hB)

/-- A function of the program's own text: a call enters it. -/
def Enters (P : Program) (f : FuncId) : Prop := ∃ fn, P.funcs[f]? = some fn ∧ (fn.name == "runtime.NumGoroutine") = false ∧ fn.body.isNone = false
theorem Enters.run {P : Program} {f : FuncId} (h : Enters P f) (args : Array Value) (w : World) : (callFunc f args).run P w = .ok (.enter f args) w := by
  obtain ⟨fn, hf, h1, h2⟩ := h
  simp only [callFunc, Sem.run_bind, run_program, Result.andThen_ok, hf, h1, h2, Bool.false_eq_true, if_false]
  rfl

/-! ### What came in: readings opened -/

/-- Whatever reads as a datum of type T is a thing. -/
def Rp.opens {α : Type} (r : Rp α) (P : Program) (T : TypeId) : Prop :=
  P.cellsOf T = r.size ∧ ∀ (H : Type) (enc : TypeId × Value → H) (w : World) (fuel : Nat) (cs : List Value) (x : DataW H × List MemPlace),
    DataW.trod enc P w 0 (fun _ => true) true fuel T cs = some x → ∃ a, r.rep w w.heap.size a cs ∧ r.ok a

theorem opens_int {P : Program} {T : TypeId} (hT : P.underlying T = some (.int .i64)) (hC : P.cellsOf T = 1) : rpInt.opens P T := by
  refine ⟨hC, fun H enc w fuel cs x h => ?_⟩
  obtain ⟨n, rfl, _, hw⟩ := DataW.trod_int hT h
  exact ⟨n, rfl, bounds_i64 hw⟩

theorem opens_byte {P : Program} {T : TypeId} (hT : P.underlying T = some (.int .u8)) (hC : P.cellsOf T = 1) : rpByte.opens P T := by
  refine ⟨hC, fun H enc w fuel cs x h => ?_⟩
  obtain ⟨n, rfl, _, hw⟩ := DataW.trod_int hT h
  have hb := bounds_u8 hw
  refine ⟨UInt8.ofNat n.toNat, ?_, trivial⟩
  show [_] = [_]
  have e : ((UInt8.ofNat n.toNat).toNat : Int) = n := by
    rw [UInt8.toNat_ofNat']
    omega
  rw [e]

theorem opens_bool {P : Program} {T : TypeId} (hT : P.underlying T = some .bool) (hC : P.cellsOf T = 1) : rpBool.opens P T := by
  refine ⟨hC, fun H enc w fuel cs x h => ?_⟩
  obtain ⟨n, rfl, _⟩ := DataW.trod_bool hT h
  exact ⟨n, rfl, trivial⟩

theorem opens_str {P : Program} {T : TypeId} (hT : P.underlying T = some .string) (hC : P.cellsOf T = 1) : rpStr.opens P T := by
  refine ⟨hC, fun H enc w fuel cs x h => ?_⟩
  obtain ⟨n, rfl, _, hs⟩ := DataW.trod_string hT h
  exact ⟨n, rfl, hs⟩

theorem pick_list {α : Type} (n : Nat) (p : Nat → α → Prop) (h : ∀ i, i < n → ∃ a, p i a) : ∃ l : List α, l.length = n ∧ ∀ k x, l[k]? = some x → p k x := by
  induction n with
  | zero => exact ⟨[], rfl, fun k x hk => by simp at hk⟩
  | succ n ih =>
    obtain ⟨l, hl, hp⟩ := ih fun i hi => h i (by omega)
    obtain ⟨a, ha⟩ := h n (by omega)
    refine ⟨l ++ [a], by simp [hl], fun k x hk => ?_⟩
    rcases Nat.lt_or_ge k l.length with hlt | hge
    · rw [List.getElem?_append_left hlt] at hk
      exact hp k x hk
    · rw [List.getElem?_append_right hge] at hk
      rcases Nat.eq_zero_or_pos (k - l.length) with h0 | h0
      · rw [h0] at hk
        simp at hk
        subst hk
        have : k = n := by omega
        subst this
        exact ha
      · rw [List.getElem?_eq_none (by simp; omega)] at hk
        cases hk

theorem opens_slice {α : Type} {r : Rp α} {P : Program} {T E : TypeId} (hT : P.underlying T = some (.slice E)) (hC : P.cellsOf T = 1) (hpos : 0 < r.size) (hE : r.opens P E) : r.slice.opens P T := by
  refine ⟨hC, fun H enc w fuel cs x h => ?_⟩
  rcases Go.Deep.open_slice hT h with ⟨rfl, _⟩ | ⟨a, len, cap, m, n, D, Pl, rfl, _, hlc, hcm, hm, _, hi⟩
  · exact ⟨[], ⟨_, rfl, Rp.SL.nil _ _ _⟩, Nat.zero_le _, fun x hx => by cases hx⟩
  · have hlen : len ≤ m := by simp at hm; omega
    obtain ⟨l, hl, hp⟩ := pick_list (α := α) len (fun i x => ∃ cs', w.cells? 0 (a.add (i * P.cellsOf E)) (P.cellsOf E) = some cs' ∧ r.rep w w.heap.size x cs' ∧ r.ok x) (fun i hi' => by
      obtain ⟨cs', hc', ht'⟩ := hi i (by omega)
      obtain ⟨x, hx, hx'⟩ := hE.2 H enc w n cs' _ ht'
      exact ⟨x, cs', hc', hx, hx'⟩)
    have hok : ∀ x ∈ l, r.ok x := fun x hx => by
      obtain ⟨k, hk, e⟩ := List.mem_iff_getElem.1 hx
      obtain ⟨_, _, _, h3⟩ := hp k x (by rw [List.getElem?_eq_getElem hk, e])
      exact h3
    refine ⟨l, ⟨_, rfl, some a, cap, by rw [hl], by omega, by omega, fun hp0 => ?_⟩, by omega, hok⟩
    obtain ⟨b, off, spot⟩ := a
    have hs : spot = none ∧ b < w.heap.size := by
      have hz : l[0]? = some l[0] := List.getElem?_eq_getElem (by omega)
      obtain ⟨cs', hc', hr, _⟩ := hp 0 _ hz
      obtain ⟨_, hcl, hcell⟩ := World.cells?_some hc'
      have hlen' := r.len _ _ _ _ hr
      have h0 := hcell 0 (by rw [hE.1]; exact hpos)
      rw [List.getElem?_eq_getElem (by omega)] at h0
      simp [Addr.add] at h0
      exact ⟨World.cell?_spot h0, World.block_lt_of_cell? w _ h0⟩
    obtain ⟨rfl, hb⟩ := hs
    refine ⟨b, off, rfl, hb, fun k x hk => ?_⟩
    obtain ⟨cs', hc', hr, _⟩ := hp k x hk
    refine ⟨cs', hr, fun j u hj => ?_⟩
    obtain ⟨_, hcl, hcell⟩ := World.cells?_some hc'
    have hjl : j < cs'.length := (List.getElem?_eq_some_iff.1 hj).1
    have := hcell j (by omega)
    rw [hj] at this
    rw [← this, hE.1]
    congr 1
    unfold Addr.add
    by_cases h1 : k * r.size = 0 <;> by_cases h2 : j = 0 <;> simp [h1, h2]

/-- The fields of a struct, from an offset on. -/
def FieldsOpen {α : Type} (r : Rp α) (P : Program) (fs : List Field) (off : Nat) : Prop :=
  ∀ (H : Type) (enc : TypeId × Value → H) (w : World) (fuel : Nat) (cs : List Value),
    (∀ f ∈ fs, ∃ x, DataW.trod enc P w 0 (fun _ => true) true fuel f.type ((cs.drop f.offset).take (P.cellsOf f.type)) = some x) → ∃ a, r.rep w w.heap.size a ((cs.drop off).take r.size) ∧ r.ok a

theorem fields_one {α : Type} {r : Rp α} {P : Program} {f : Field} {off : Nat} (h : r.opens P f.type) (ho : f.offset = off) : FieldsOpen r P [f] off := by
  intro H enc w fuel cs hf
  obtain ⟨x, hx⟩ := hf f (by simp)
  have := h.2 H enc w fuel _ x hx
  rw [ho, h.1] at this
  exact this

theorem fields_cons {α β : Type} {r : Rp α} {s : Rp β} {P : Program} {f : Field} {fs : List Field} {off : Nat} (h : r.opens P f.type) (ho : f.offset = off) (hs : FieldsOpen s P fs (off + r.size)) :
    FieldsOpen (r.pair s) P (f :: fs) off := by
  intro H enc w fuel cs hf
  obtain ⟨x, hx⟩ := hf f (by simp)
  obtain ⟨a, ha, ha'⟩ := h.2 H enc w fuel _ x hx
  obtain ⟨b, hb, hb'⟩ := hs H enc w fuel cs fun g hg => hf g (by simp [hg])
  rw [ho, h.1] at ha
  refine ⟨(a, b), ⟨_, _, ?_, ha, hb⟩, ha', hb'⟩
  show (cs.drop off).take (r.size + s.size) = _
  rw [List.take_add, List.drop_drop]

theorem opens_struct {α : Type} {r : Rp α} {P : Program} {T : TypeId} {fs : Array Field} (hT : P.underlying T = some (.struct fs)) (hC : P.cellsOf T = r.size) (h : FieldsOpen r P fs.toList 0) : r.opens P T := by
  refine ⟨hC, fun H enc w fuel cs x ht => ?_⟩
  obtain ⟨xs, n, _, _, hlen, hxl, hg⟩ := DataW.trod_struct hT ht
  obtain ⟨a, ha, ha'⟩ := h H enc w n cs fun f hf => by
    obtain ⟨i, hi, e⟩ := List.mem_iff_getElem.1 hf
    have h1 : fs[i]? = some f := by rw [← Array.getElem?_toList, List.getElem?_eq_getElem hi, e]
    have hi' : i < xs.length := by simp at hi; omega
    exact ⟨xs[i], (hg i f h1).trans (List.getElem?_eq_getElem hi')⟩
  refine ⟨a, ?_, ha'⟩
  rw [List.drop_zero, List.take_of_length_le (by omega)] at ha
  exact ha

theorem opens_as {α β : Type} {r : Rp α} {g : β → α} {P : Program} {T : TypeId} (f : α → β) (hg : ∀ a, g (f a) = a) (h : r.opens P T) : (r.as_ g).opens P T := by
  refine ⟨h.1, fun H enc w fuel cs x ht => ?_⟩
  obtain ⟨a, ha, ha'⟩ := h.2 H enc w fuel cs x ht
  exact ⟨f a, by show r.rep _ _ (g (f a)) _; rw [hg]; exact ha, by show r.ok (g (f a)); rw [hg]; exact ha'⟩

/-- An argument. -/
theorem Rp.arg {α : Type} {r : Rp α} {P : Program} {T : TypeId} (h : r.opens P T) {H : Type} {enc : TypeId × Value → H} {w : World} {v : Value} {d : DataW H} {p : List MemPlace} (ht : DataW.Trod enc P w 0 (fun _ => true) true T v d p) :
    ∃ a, r.rep w w.heap.size a v.cells.toList ∧ r.ok a := by
  obtain ⟨fuel, hf⟩ := ht
  exact h.2 H enc w fuel _ _ hf

end Go.Proofs.YtkodcoianakjoaaDoor
