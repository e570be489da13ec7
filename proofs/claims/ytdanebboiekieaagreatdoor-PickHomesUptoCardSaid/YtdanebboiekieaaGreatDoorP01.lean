/- The walks, part 1. -/
import Derived.WalkSpells
import Derived.WalkLawsBesides
import Derived.BigQuiet
import Derived.BigGuardPart
import Derived.Lib.Hide
import Derived.Deep.RegionHeld3
import Derived.Deep.AppendLies
import Derived.StillTailTactics
import Derived.ProofKit
import Derived.OpenShut
import Derived.Deep.Fields
import Derived.Deep.RegionLaw
import Derived.Test.YtdanebboiekieaaGreatDoorRows
import Derived.Deep.LoopGhost
set_option linter.unusedSimpArgs false
set_option linter.unusedVariables false
set_option maxRecDepth 100000
set_option maxHeartbeats 16000000
namespace Go.Proofs.YtdanebboiekieaaGreatDoor
open Go.RowKit Go.ChangeShapes Go.WideShapes Go.Deep
def I64 (n : Int) : Prop := -9223372036854775808 ≤ n ∧ n ≤ 9223372036854775807
structure Rp (α : Type) where
 size : Nat
 rep : World -> Nat -> α -> List Value -> Prop
 ok : α -> Prop
 len : ∀ w B a cs, rep w B a cs -> cs.length = size
 mono : ∀ w w' B a cs, rep w B a cs -> (∀ (p : Addr) u, p.block < B -> w.cell? p = some u -> w'.cell? p = some u) -> rep w' B a cs
 more : ∀ w B B' a cs, rep w B a cs -> B ≤ B' -> rep w B' a cs
def Rp.SL {α : Type} (r : Rp α) (w : World) (B : Nat) (xs : List α) (v : Value) : Prop :=
 ∃ A c, v = .slice A xs.length c ∧ xs.length ≤ maxLen ∧ xs.length ≤ c ∧ (0 < xs.length -> ∃ b off, A = some ⟨b, off, none⟩ ∧ b < B ∧
  ∀ k x, xs[k]? = some x -> ∃ cs, r.rep w B x cs ∧ ∀ j u, cs[j]? = some u -> w.cell? ⟨b, off + k * r.size + j, none⟩ = some u)
theorem Rp.SL.mono {α : Type} {r : Rp α} {w w' : World} {B : Nat} {xs : List α} {v : Value} (h : r.SL w B xs v) (hk : ∀ (p : Addr) u, p.block < B -> w.cell? p = some u -> w'.cell? p = some u) : r.SL w' B xs v := by
 obtain ⟨A, c, hv, hl, hc, h⟩ := h;refine ⟨A, c, hv, hl, hc, fun hp => ?_⟩;obtain ⟨b, off, hA, hb, hx⟩ := h hp;refine ⟨b, off, hA, hb, fun k x hk' => ?_⟩;obtain ⟨cs, hr, hcs⟩ := hx k x hk';exact ⟨cs, r.mono _ _ _ _ _ hr hk, fun j u hj => hk _ _ hb (hcs j u hj)⟩
theorem Rp.SL.keep {α : Type} {r : Rp α} {w w' : World} {B : Nat} {xs : List α} {v : Value} (h : r.SL w B xs v) (hk : ∀ p : Addr, p.block < B -> w'.cell? p = w.cell? p) : r.SL w' B xs v :=
 h.mono fun p u hp hc => (hk p hp).trans hc
theorem Rp.SL.more {α : Type} {r : Rp α} {w : World} {B B' : Nat} {xs : List α} {v : Value} (h : r.SL w B xs v) (hB : B ≤ B') : r.SL w B' xs v := by
 obtain ⟨A, c, hv, hl, hc, h⟩ := h;refine ⟨A, c, hv, hl, hc, fun hp => ?_⟩;obtain ⟨b, off, hA, hb, hx⟩ := h hp;refine ⟨b, off, hA, by omega, fun k x hk' => ?_⟩;obtain ⟨cs, hr, hcs⟩ := hx k x hk';exact ⟨cs, r.more _ _ _ _ _ hr hB, hcs⟩
theorem Rp.SL.below {α : Type} {r : Rp α} {w w' : World} {B : Nat} {xs : List α} {v : Value} (h : r.SL w B xs v) (hb : Below B w w') : r.SL w' B xs v := h.keep fun _ hp => hb.cell hp
theorem Rp.SL.up {α : Type} {r : Rp α} {w w' : World} {B B' : Nat} {xs : List α} {v : Value} (h : r.SL w B xs v) (hb : Below B w w') (hB : B ≤ B') : r.SL w' B' xs v := (h.below hb).more hB
theorem Rp.SL.nil {α : Type} (r : Rp α) (w : World) (B : Nat) : r.SL w B [] (.slice none 0 0) := ⟨none, 0, rfl, Nat.zero_le _, Nat.le_refl _, fun h => absurd h (Nat.lt_irrefl 0)⟩
theorem Rp.SL.len {α : Type} {r : Rp α} {w : World} {B : Nat} {xs : List α} {A : Option Addr} {n c : Nat} (h : r.SL w B xs (.slice A n c)) : n = xs.length := by
 obtain ⟨A', c', hv, _⟩ := h;injection hv
theorem Rp.SL.max {α : Type} {r : Rp α} {w : World} {B : Nat} {xs : List α} {v : Value} (h : r.SL w B xs v) : xs.length ≤ maxLen := by
 obtain ⟨A', c', hv, h, _⟩ := h;exact h
theorem Rp.SL.at_ {α : Type} {r : Rp α} {w : World} {B : Nat} {xs : List α} {A : Option Addr} {n c : Nat} (h : r.SL w B xs (.slice A n c)) {k : Nat} {x : α} (hk : xs[k]? = some x) :
 ∃ b off cs, A = some ⟨b, off, none⟩ ∧ b < B ∧ r.rep w B x cs ∧ ∀ j u, cs[j]? = some u -> w.cell? ⟨b, off + k * r.size + j, none⟩ = some u := by
 obtain ⟨A', c', hv, _, _, h⟩ := h;injection hv with hA hn hc
 subst hA;have hlt : k < xs.length := (List.getElem?_eq_some_iff.1 hk).1;obtain ⟨b, off, hA, hb, hx⟩ := h (by omega);obtain ⟨cs, hr, hcs⟩ := hx k x hk;exact ⟨b, off, cs, hA, hb, hr, hcs⟩
theorem Rp.SL.cases_ {α : Type} {r : Rp α} {w : World} {B : Nat} {xs : List α} {v : Value} (h : r.SL w B xs v) : ∃ A c, v = .slice A xs.length c ∧ xs.length ≤ 9223372036854775807 ∧ xs.length ≤ c ∧ r.SL w B xs (.slice A xs.length c) := by
 obtain ⟨A, c, rfl, hl, hc, h'⟩ := h;exact ⟨A, c, rfl, hl, hc, A, c, rfl, hl, hc, h'⟩
def Rp.slice {α : Type} (r : Rp α) : Rp (List α) where
 size := 1
 rep := fun w B xs cs => ∃ v, cs = [v] ∧ r.SL w B xs v
 ok := fun xs => xs.length ≤ maxLen ∧ ∀ x ∈ xs, r.ok x
 len := by rintro w B a cs ⟨v, rfl, _⟩; rfl
 mono := by rintro w w' B a cs ⟨v, rfl, h⟩ hk; exact ⟨v, rfl, h.mono hk⟩
 more := by rintro w B B' a cs ⟨v, rfl, h⟩ hk; exact ⟨v, rfl, h.more hk⟩
def Rp.pair {α β : Type} (r : Rp α) (s : Rp β) : Rp (α × β) where
 size := r.size + s.size
 rep := fun w B x cs => ∃ c1 c2, cs = c1 ++ c2 ∧ r.rep w B x.1 c1 ∧ s.rep w B x.2 c2
 ok := fun x => r.ok x.1 ∧ s.ok x.2
 len := by rintro w B a cs ⟨c1, c2, rfl, h1, h2⟩; rw [List.length_append, r.len _ _ _ _ h1, s.len _ _ _ _ h2]
 mono := by rintro w w' B a cs ⟨c1, c2, rfl, h1, h2⟩ hk; exact ⟨c1, c2, rfl, r.mono _ _ _ _ _ h1 hk, s.mono _ _ _ _ _ h2 hk⟩
 more := by rintro w B B' a cs ⟨c1, c2, rfl, h1, h2⟩ hk; exact ⟨c1, c2, rfl, r.more _ _ _ _ _ h1 hk, s.more _ _ _ _ _ h2 hk⟩
def Rp.as_ {α β : Type} (r : Rp α) (g : β -> α) : Rp β where
 size := r.size
 rep := fun w B x cs => r.rep w B (g x) cs
 ok := fun x => r.ok (g x)
 len := fun w B _ cs h => r.len w B _ cs h
 mono := fun w w' B _ cs h hk => r.mono w w' B _ cs h hk
 more := fun w B B' _ cs h hk => r.more w B B' _ cs h hk
def rpInt : Rp Int where
 size := 1
 rep := fun _ _ n cs => cs = [.int .i64 n]
 ok := I64
 len := by rintro w B a cs rfl; rfl
 mono := by rintro w w' B a cs rfl _; rfl
 more := by rintro w B B' a cs rfl _; rfl
def rpBool : Rp Bool where
 size := 1
 rep := fun _ _ n cs => cs = [.bool n]
 ok := fun _ => True
 len := by rintro w B a cs rfl; rfl
 mono := by rintro w w' B a cs rfl _; rfl
 more := by rintro w B B' a cs rfl _; rfl
def rpStr : Rp ByteArray where
 size := 1
 rep := fun _ _ n cs => cs = [.string n]
 ok := fun s => s.size ≤ maxLen
 len := by rintro w B a cs rfl; rfl
 mono := by rintro w w' B a cs rfl _; rfl
 more := by rintro w B B' a cs rfl _; rfl
theorem Rp.SL.int_at {w : World} {B : Nat} {xs : List Int} {A : Option Addr} {n c k : Nat} (h : rpInt.SL w B xs (.slice A n c)) (hk : k < xs.length) : ∃ b off, A = some ⟨b, off, none⟩ ∧ b < B ∧ w.cell? ⟨b, off + k, none⟩ = some (.int .i64 (xs.getD k 0)) := by
 obtain ⟨b, off, cs, hA, hb, hr, hcs⟩ := h.at_ (List.getElem?_eq_getElem hk);refine ⟨b, off, hA, hb, ?_⟩
 cases hr
 have := hcs 0 _ rfl;simpa [rpInt, List.getD_eq_getElem?_getD, hk] using this
theorem qm {B : Nat} {a w : World} (h : Below B a w) (n : Nat) : Below B a (w.drewN n) := ⟨h.os, h.tape, h.output, h.size, h.block⟩
theorem q1y {w : World} {B B' : Nat} {e : TypeId} {size : Nat} {v : Value} {n : Nat} {xs : List Value} (h : w.ownsRow B e size v n xs) (hB : B' ≤ B) : w.ownsRow B' e size v n xs := by
 obtain ⟨h1, h2⟩ := h;refine ⟨h1, ?_⟩
 rcases h2 with h2 | ⟨g, cap, cur, hv, hg, h3⟩
 ·exact .inl h2
 ·exact .inr ⟨g, cap, cur, hv, by omega, h3⟩
theorem Rp.flat_get {α : Type} (f : α -> List Value) (n : Nat) (hf : ∀ a, (f a).length = n) : ∀ (xs : List α) (k j : Nat) (x : α), xs[k]? = some x -> j < n -> (xs.flatMap f)[k * n + j]? = (f x)[j]?
 | [], k, j, x, h, _ => by simp at h
 | y :: ys, 0, j, x, h, hj => by
   simp at h;subst h;rw [List.flatMap_cons, Nat.zero_mul, Nat.zero_add, List.getElem?_append_left (by rw [hf]; exact hj)]
 | y :: ys, k + 1, j, x, h, hj => by
   rw [List.getElem?_cons_succ] at h;rw [List.flatMap_cons, List.getElem?_append_right (by rw [hf, Nat.add_mul]; omega), hf, show (k + 1) * n + j - n = k * n + j from by rw [Nat.add_mul]; omega];exact Rp.flat_get f n hf ys k j x h hj
theorem Rp.SL.of_own {α : Type} {r : Rp α} {f : α -> List Value} (hr : ∀ (w : World) (B : Nat) (a : α), r.rep w B a (f a)) (hf : ∀ a, (f a).length = r.size) {w : World} {B base : Nat} {e : TypeId} {v : Value} {xs : List α}
 (h : w.ownsRow base e r.size v xs.length (xs.flatMap f)) (hB : w.heap.size ≤ B) : r.SL w B xs v := by
 obtain ⟨h1, h2⟩ := h
 rcases h2 with ⟨rfl, hn⟩ | ⟨g, cap, cur, rfl, _, hh, hnc, hcm, hcs, htk⟩
 ·have : xs = [] := List.eq_nil_of_length_eq_zero hn;subst this;exact Rp.SL.nil _ _ _
 ·refine ⟨_, cap, rfl, by omega, hnc, fun hp => ⟨g, 0, rfl, ?_, fun k x hk => ⟨f x, hr _ _ _, fun j u hj => ?_⟩⟩⟩
  ·rcases Nat.lt_or_ge g w.heap.size with hlt | hge
   ·omega
   ·rw [Array.getElem?_eq_none hge] at hh
    cases hh
  ·have hjn : j < r.size := by rw [<- hf x]; exact (List.getElem?_eq_some_iff.1 hj).1
   have hg := Rp.flat_get f r.size hf xs k j x hk hjn;rw [<- htk, hj, List.getElem?_take] at hg
   split at hg
   ·rw [Array.getElem?_toList] at hg;rw [Nat.zero_add];simpa [World.cell?, hh] using hg
   ·cases hg
theorem bcell {W w1 : World} (hb : Below W.heap.size W w1) : (∀ b o, b < W.heap.size -> w1.cell? ⟨b, o, none⟩ = W.cell? ⟨b, o, none⟩) ∧ (∀ b o, b < W.heap.size -> w1.frozen? ⟨b, o, none⟩ = W.frozen? ⟨b, o, none⟩) :=
 ⟨fun b o h => hb.cell (p := ⟨b, o, none⟩) h, fun b o h => hb.frozen (p := ⟨b, o, none⟩) h⟩
theorem qgb {B B' : Nat} {a b c : World} (h : Below B' b c) (k : Below B a b) (hB : B ≤ B') : Below B a c := k.trans (h.mono hB)
theorem bl0 {B : Nat} {w w' : World} (h : Below B w w' := by repeat (first | exact Below.refl _ _ | assumption | refine qm ?_ _ | refine Below.drew ?_ | refine Below.setCell ?_ (by first | omega | (simp; done) | (simp; omega)) _ | refine Below.alloc ?_ (by first | omega | (simp; done) | (simp; omega)) _ | refine qgb (by assumption) ?_ (by first | omega | (simp; done) | (simp; omega)))) : Below B w w' := h
def Enters (P : Program) (f : FuncId) : Prop := ∃ fn, P.funcs[f]? = some fn ∧ (fn.name == "runtime.NumGoroutine") = false ∧ fn.body.isNone = false
theorem Enters.run {P : Program} {f : FuncId} (h : Enters P f) (args : Array Value) (w : World) : (callFunc f args).run P w = .ok (.enter f args) w := by
 obtain ⟨fn, hf, h1, h2⟩ := h;simp only [callFunc, Sem.run_bind, run_program, Result.andThen_ok, hf, h1, h2, Bool.false_eq_true, if_false];rfl
def Rp.opens {α : Type} (r : Rp α) (P : Program) (T : TypeId) : Prop :=
 P.cellsOf T = r.size ∧ ∀ (H : Type) (enc : TypeId × Value -> H) (w : World) (fuel : Nat) (cs : List Value) (x : DataW H × List MemPlace),
  DataW.trod enc P w 0 (fun _ => true) true fuel T cs = some x -> ∃ a, r.rep w w.heap.size a cs ∧ r.ok a
theorem qck {P : Program} {T : TypeId} (hT : P.underlying T = some (.int .i64)) (hC : P.cellsOf T = 1) : rpInt.opens P T := by
 refine ⟨hC, fun H enc w fuel cs x h => ?_⟩;obtain ⟨n, rfl, _, hw⟩ := DataW.trod_int hT h;exact ⟨n, rfl, bounds_i64 hw⟩
theorem qh2 {P : Program} {T : TypeId} (hT : P.underlying T = some .bool) (hC : P.cellsOf T = 1) : rpBool.opens P T := by
 refine ⟨hC, fun H enc w fuel cs x h => ?_⟩;obtain ⟨n, rfl, _⟩ := DataW.trod_bool hT h;exact ⟨n, rfl, trivial⟩
theorem qjg {P : Program} {T : TypeId} (hT : P.underlying T = some .string) (hC : P.cellsOf T = 1) : rpStr.opens P T := by
 refine ⟨hC, fun H enc w fuel cs x h => ?_⟩;obtain ⟨n, rfl, _, hs⟩ := DataW.trod_string hT h;exact ⟨n, rfl, hs⟩
theorem qco {α : Type} (n : Nat) (p : Nat -> α -> Prop) (h : ∀ i, i < n -> ∃ a, p i a) : ∃ l : List α, l.length = n ∧ ∀ k x, l[k]? = some x -> p k x := by
 induction n with
 | zero => exact ⟨[], rfl, fun k x hk => by simp at hk⟩
 | succ n ih =>
   obtain ⟨l, hl, hp⟩ := ih fun i hi => h i (by omega);obtain ⟨a, ha⟩ := h n (by omega);refine ⟨l ++ [a], by simp [hl], fun k x hk => ?_⟩
   rcases Nat.lt_or_ge k l.length with hlt | hge
   ·rw [List.getElem?_append_left hlt] at hk;exact hp k x hk
   ·rw [List.getElem?_append_right hge] at hk
    rcases Nat.eq_zero_or_pos (k - l.length) with h0 | h0
    ·rw [h0] at hk;simp at hk;subst hk;have : k = n := by omega
     subst this;exact ha
    ·rw [List.getElem?_eq_none (by simp; omega)] at hk
     cases hk
theorem q5r {α : Type} {r : Rp α} {P : Program} {T E : TypeId} (hT : P.underlying T = some (.slice E)) (hC : P.cellsOf T = 1) (hpos : 0 < r.size) (hE : r.opens P E) : r.slice.opens P T := by
 refine ⟨hC, fun H enc w fuel cs x h => ?_⟩
 rcases Go.Deep.open_slice hT h with ⟨rfl, _⟩ | ⟨a, len, cap, m, n, D, Pl, rfl, _, hlc, hcm, hm, _, hi⟩
 ·exact ⟨[], ⟨_, rfl, Rp.SL.nil _ _ _⟩, Nat.zero_le _, fun x hx => by cases hx⟩
 ·have hlen : len ≤ m := by simp at hm; omega
  obtain ⟨l, hl, hp⟩ := qco (α := α) len (fun i x => ∃ cs', w.cells? 0 (a.add (i * P.cellsOf E)) (P.cellsOf E) = some cs' ∧ r.rep w w.heap.size x cs' ∧ r.ok x) (fun i hi' => by
   obtain ⟨cs', hc', ht'⟩ := hi i (by omega);obtain ⟨x, hx, hx'⟩ := hE.2 H enc w n cs' _ ht';exact ⟨x, cs', hc', hx, hx'⟩)
  have hok : ∀ x ∈ l, r.ok x := fun x hx => by
   obtain ⟨k, hk, e⟩ := List.mem_iff_getElem.1 hx;obtain ⟨_, _, _, h3⟩ := hp k x (by rw [List.getElem?_eq_getElem hk, e]);exact h3
  refine ⟨l, ⟨_, rfl, some a, cap, by rw [hl], by omega, by omega, fun hp0 => ?_⟩, by omega, hok⟩;obtain ⟨b, off, spot⟩ := a
  have hs : spot = none ∧ b < w.heap.size := by
   have hz : l[0]? = some l[0] := List.getElem?_eq_getElem (by omega);obtain ⟨cs', hc', hr, _⟩ := hp 0 _ hz;obtain ⟨_, hcl, hcell⟩ := World.cells?_some hc';have hlen' := r.len _ _ _ _ hr;have h0 := hcell 0 (by rw [hE.1]; exact hpos);rw [List.getElem?_eq_getElem (by omega)] at h0;simp [Addr.add] at h0;exact ⟨World.cell?_spot h0, World.block_lt_of_cell? w _ h0⟩
  obtain ⟨rfl, hb⟩ := hs;refine ⟨b, off, rfl, hb, fun k x hk => ?_⟩;obtain ⟨cs', hc', hr, _⟩ := hp k x hk;refine ⟨cs', hr, fun j u hj => ?_⟩;obtain ⟨_, hcl, hcell⟩ := World.cells?_some hc';have hjl : j < cs'.length := (List.getElem?_eq_some_iff.1 hj).1;have := hcell j (by omega);rw [hj] at this;rw [<- this, hE.1]
  congr 1
  unfold Addr.add
  by_cases h1 : k * r.size = 0 <;> by_cases h2 : j = 0 <;> simp [h1, h2]
def q51 {α : Type} (r : Rp α) (P : Program) (fs : List Field) (off : Nat) : Prop :=
 ∀ (H : Type) (enc : TypeId × Value -> H) (w : World) (fuel : Nat) (cs : List Value),
  (∀ f ∈ fs, ∃ x, DataW.trod enc P w 0 (fun _ => true) true fuel f.type ((cs.drop f.offset).take (P.cellsOf f.type)) = some x) -> ∃ a, r.rep w w.heap.size a ((cs.drop off).take r.size) ∧ r.ok a
theorem q42 {α : Type} {r : Rp α} {P : Program} {f : Field} {off : Nat} (h : r.opens P f.type) (ho : f.offset = off) : q51 r P [f] off := by
 intro H enc w fuel cs hf;obtain ⟨x, hx⟩ := hf f (by simp);have := h.2 H enc w fuel _ x hx;rw [ho, h.1] at this;exact this
theorem q0r {α β : Type} {r : Rp α} {s : Rp β} {P : Program} {f : Field} {fs : List Field} {off : Nat} (h : r.opens P f.type) (ho : f.offset = off) (hs : q51 s P fs (off + r.size)) :
 q51 (r.pair s) P (f :: fs) off := by
 intro H enc w fuel cs hf;obtain ⟨x, hx⟩ := hf f (by simp);obtain ⟨a, ha, ha'⟩ := h.2 H enc w fuel _ x hx;obtain ⟨b, hb, hb'⟩ := hs H enc w fuel cs fun g hg => hf g (by simp [hg]);rw [ho, h.1] at ha;refine ⟨(a, b), ⟨_, _, ?_, ha, hb⟩, ha', hb'⟩
 show (cs.drop off).take (r.size + s.size) = _;rw [List.take_add, List.drop_drop]
theorem q2r {α : Type} {r : Rp α} {P : Program} {T : TypeId} {fs : Array Field} (hT : P.underlying T = some (.struct fs)) (hC : P.cellsOf T = r.size) (h : q51 r P fs.toList 0) : r.opens P T := by
 refine ⟨hC, fun H enc w fuel cs x ht => ?_⟩;obtain ⟨xs, n, _, _, hlen, hxl, hg⟩ := DataW.trod_struct hT ht
 obtain ⟨a, ha, ha'⟩ := h H enc w n cs fun f hf => by
  obtain ⟨i, hi, e⟩ := List.mem_iff_getElem.1 hf;have h1 : fs[i]? = some f := by rw [<- Array.getElem?_toList, List.getElem?_eq_getElem hi, e]
  have hi' : i < xs.length := by simp at hi; omega
  exact ⟨xs[i], (hg i f h1).trans (List.getElem?_eq_getElem hi')⟩
 refine ⟨a, ?_, ha'⟩;rw [List.drop_zero, List.take_of_length_le (by omega)] at ha;exact ha
theorem q6h {α β : Type} {r : Rp α} {g : β -> α} {P : Program} {T : TypeId} (f : α -> β) (hg : ∀ a, g (f a) = a) (h : r.opens P T) : (r.as_ g).opens P T := by
 refine ⟨h.1, fun H enc w fuel cs x ht => ?_⟩;obtain ⟨a, ha, ha'⟩ := h.2 H enc w fuel cs x ht;exact ⟨f a, by show r.rep _ _ (g (f a)) _; rw [hg]; exact ha, by show r.ok (g (f a)); rw [hg]; exact ha'⟩
end Go.Proofs.YtdanebboiekieaaGreatDoor
namespace Go.Proofs.YtdanebboiekieaaGreatDoor
open Go.RowKit
theorem q55 {a w : World} {B b : Nat} (hb : Below B a w) (hlt : b < B) {u v : Value} (h0 : a.cell? ⟨b, 0, none⟩ = some u) (h1 : a.cell? ⟨b, 1, none⟩ = some v) (x y : Value) :
 ((w.setCell ⟨b, 0, none⟩ x).setCell ⟨b, 1, none⟩ y).cell? ⟨b, 0, none⟩ = some x ∧ ((w.setCell ⟨b, 0, none⟩ x).setCell ⟨b, 1, none⟩ y).cell? ⟨b, 1, none⟩ = some y := by
 have g0 : w.cell? ⟨b, 0, none⟩ = some u := (hb.cell hlt).trans h0;have g1 : w.cell? ⟨b, 1, none⟩ = some v := (hb.cell hlt).trans h1
 constructor
 ·rw [World.cell?_setCell_other _ _ _ _ (by simp)];simp [go_sem, g0]
 ·simp [go_sem, g1]
end Go.Proofs.YtdanebboiekieaaGreatDoor
namespace Go.Proofs.YtdanebboiekieaaGreatDoor
open Go.RowKit
theorem q4c {g : Nat} {e : TypeId} {fr : Nat × Nat} : ∀ (vs : List Value) (o : Nat) (w : World) (cur : Array Value), w.heap[g]? = some (.cells cur e fr) -> o + vs.length ≤ cur.size ->
 ∃ cur' : Array Value, (w.setCells g o vs).heap[g]? = some (.cells cur' e fr) ∧ cur'.toList = cur.toList.take o ++ vs ++ cur.toList.drop (o + vs.length)
 | [], o, w, cur, h, _ => ⟨cur, h, by simp⟩
 | v :: r, o, w, cur, h, hl => by
   have h1 : (w.setCell ⟨g, o, none⟩ v).heap[g]? = some (.cells (cur.setIfInBounds o v) e fr) := by
    simp [World.setCell, Array.getElem?_modify, h]
   obtain ⟨cur', h2, h3⟩ := q4c r (o + 1) _ _ h1 (by simp at hl ⊢; omega);refine ⟨cur', h2, ?_⟩;simp only [List.length_cons] at hl;rw [h3, Array.toList_setIfInBounds];have hlen : o < cur.toList.length := by rw [Array.length_toList]; omega
   have e1 : min (o + 1) cur.size = o + 1 := by omega
   have e2 : min o cur.size = o := by omega
   apply List.ext_getElem?;intro j;simp only [List.getElem?_append, List.getElem?_take, List.getElem?_drop, List.length_append, List.length_take, List.length_set, List.length_cons, List.getElem?_set, List.getElem?_cons, Array.length_toList, e1, e2]
   by_cases h4 : j < o
   ·simp [h4, show j < o + 1 + r.length from by omega, show j < o + (r.length + 1) from by omega, show j < o + 1 from by omega, show ¬ o = j from by omega]
   ·by_cases h5 : j = o
    ·subst h5;simp [show j < cur.size from by omega, show j < j + 1 + r.length from by omega]
    ·by_cases h6 : j < o + 1 + r.length
     ·simp [h4, h6, show j < o + (r.length + 1) from by omega, show ¬ j < o + 1 from by omega, show ¬ j - o = 0 from by omega, show j - o - 1 = j - (o + 1) from by omega]
     ·simp [h6, show ¬ j < o + (r.length + 1) from by omega, show ¬ o = o + 1 + r.length + (j - (o + 1 + r.length)) from by omega, show o + (r.length + 1) + (j - (o + (r.length + 1))) = o + 1 + r.length + (j - (o + 1 + r.length)) from by omega]
theorem q2n {w : World} {g : Nat} : ∀ (vs : List Value) (o : Nat) (w' : World), w.grownBy w' (some g) -> w.grownBy (w'.setCells g o vs) (some g)
 | [], _, _, h => h
 | v :: r, o, w', h => q2n r (o + 1) _ ⟨h.os, h.tape, h.output, by simpa [World.setCell] using h.size, fun k hk hne => (Below.heap_setCell _ _ _ _ (by rintro rfl; exact hne rfl)).trans (h.block k hk hne)⟩
theorem qdy {w w' : World} {g B : Nat} (h : w.grownBy w' (some g)) (hg : B ≤ g) (hB : B ≤ w.heap.size) : Below B w w' := ⟨h.os, h.tape, h.output, h.size, fun k hk => h.block k (by omega) (by intro e; injection e with e; omega)⟩
theorem q8i {α : Type} (f : α -> List Value) (n : Nat) (hf : ∀ a, (f a).length = n) : ∀ (xs : List α) (k : Nat), (xs.flatMap f).take (k * n) = (xs.take k).flatMap f
 | [], k => by simp
 | x :: xs, 0 => by simp
 | x :: xs, k + 1 => by
   rw [List.take_succ_cons, List.flatMap_cons, List.flatMap_cons, Nat.add_mul, Nat.one_mul, Nat.add_comm (k * n) n, <- q8i f n hf xs k, List.take_append, hf, show n + k * n - n = k * n from by omega, List.take_of_length_le (by rw [hf]; omega)]
theorem q8g {α : Type} (f : α -> List Value) (n : Nat) (hf : ∀ a, (f a).length = n) : ∀ (xs : List α) (k : Nat), (xs.flatMap f).drop (k * n) = (xs.drop k).flatMap f
 | [], k => by simp
 | x :: xs, 0 => by simp
 | x :: xs, k + 1 => by
   rw [List.drop_succ_cons, List.flatMap_cons, Nat.add_mul, Nat.one_mul, Nat.add_comm (k * n) n, <- q8g f n hf xs k, List.drop_append, hf, show n + k * n - n = k * n from by omega, List.drop_of_length_le (by rw [hf]; omega), List.nil_append]
theorem q0e {α : Type} (f : α -> List Value) (n : Nat) (hf : ∀ a, (f a).length = n) (xs : List α) : (xs.flatMap f).length = xs.length * n := by
 induction xs with
 | nil => simp
 | cons x xs ih => rw [List.flatMap_cons, List.length_append, hf, ih, List.length_cons, Nat.add_mul]; omega
theorem q1x {w : World} {base : Nat} {e : TypeId} {size g n cap : Nat} {xs vs : List Value} {o m : Nat} (h : w.ownsRow base e size (.slice (some ⟨g, 0, none⟩) n cap) n xs) (ho : o + vs.length ≤ n * size) (hm : m ≤ n) (ys : List Value) (hy : (xs.take o ++ vs ++ xs.drop (o + vs.length)).take (m * size) = ys) :
 (w.setCells g o vs).ownsRow base e size (.slice (some ⟨g, 0, none⟩) m cap) m ys := by
 obtain ⟨h1, h2⟩ := h
 rcases h2 with ⟨h2, _⟩ | ⟨g', cap', cur, h2, hb, hg, hnc, hcm, hcs, htk⟩
 ·simp at h2
 ·simp only [Value.slice.injEq, Option.some.injEq, Addr.mk.injEq, and_true, true_and] at h2;obtain ⟨rfl, rfl⟩ := h2;have hle : n * size ≤ cur.size := by rw [hcs]; exact Nat.mul_le_mul_right _ hnc
  have hmn : m * size ≤ n * size := Nat.mul_le_mul_right _ hm;obtain ⟨cur', hc', hl'⟩ := q4c vs o w cur hg (by omega)
  have hsz : cur'.size = cur.size := by
   rw [<- Array.length_toList, hl'];simp;omega
  have hcat : cur'.toList.take (m * size) = ys := by
   rw [<- hy, hl', <- htk];apply List.ext_getElem?;intro j
   by_cases hj : j < m * size
   ·simp only [List.getElem?_take, hj, if_true, List.getElem?_append, List.length_append, List.length_take, List.getElem?_drop, List.length_drop, Array.length_toList];have e1 : min o cur.size = o := by omega
    have e2 : min o (min (n * size) cur.size) = o := by omega
    simp only [e1, e2]
    by_cases h3 : j < o
    ·simp [h3, show j < o + vs.length from by omega, show j < n * size from by omega]
    ·by_cases h4 : j < o + vs.length
     ·simp [h3, h4]
     ·simp [h4, show o + vs.length + (j - (o + vs.length)) < n * size from by omega]
   ·simp [List.getElem?_take, hj]
  refine ⟨?_, .inr ⟨g, cap, cur', rfl, hb, hc', by omega, hcm, by omega, hcat⟩⟩;rw [<- hcat];simp;omega
theorem q6j {w : World} {base : Nat} {e : TypeId} {size g n cap : Nat} {xs vs : List Value} {o : Nat} (h : w.ownsRow base e size (.slice (some ⟨g, 0, none⟩) n cap) n xs) (ho : n * size ≤ o) (hc : o + vs.length ≤ cap * size) :
 (w.setCells g o vs).ownsRow base e size (.slice (some ⟨g, 0, none⟩) n cap) n xs := by
 obtain ⟨h1, h2⟩ := h
 rcases h2 with ⟨h2, _⟩ | ⟨g', cap', cur, h2, hb, hg, hnc, hcm, hcs, htk⟩
 ·simp at h2
 ·simp only [Value.slice.injEq, Option.some.injEq, Addr.mk.injEq, and_true, true_and] at h2;obtain ⟨rfl, rfl⟩ := h2;obtain ⟨cur', hc', hl'⟩ := q4c vs o w cur hg (by omega)
  have hsz : cur'.size = cur.size := by
   rw [<- Array.length_toList, hl'];simp;omega
  refine ⟨h1, .inr ⟨g, cap, cur', rfl, hb, hc', hnc, hcm, by omega, ?_⟩⟩;rw [hl', List.append_assoc, List.take_append_of_le_length (by simp; omega), List.take_take, Nat.min_eq_left ho, htk]
theorem q48 {w : World} {base : Nat} {e : TypeId} {size g n cap : Nat} {xs : List Value} (h : w.ownsRow base e size (.slice (some ⟨g, 0, none⟩) n cap) n xs) (j : Nat) (hj : j < cap * size) : (w.cell? ⟨g, j, none⟩).isSome = true ∧ w.frozen? ⟨g, j, none⟩ = false := by
 obtain ⟨h1, h2⟩ := h
 rcases h2 with ⟨h2, _⟩ | ⟨g', cap', cur, h2, hb, hg, hnc, hcm, hcs, htk⟩
 ·simp at h2
 ·simp only [Value.slice.injEq, Option.some.injEq, Addr.mk.injEq, and_true, true_and] at h2;obtain ⟨rfl, rfl⟩ := h2;have : j < cur.size := by omega
  simp [World.cell?, World.frozen?, hg, this]
theorem qb1 {P : Program} (w : World) (t e ty : TypeId) (z : Value) (ht : P.underlying t = some (.slice e)) (hv : ∀ w, (zeroValue e).run P w = .ok z w) {size : Nat} (hz : z.cells.size = size) (h1 : ∀ u ∈ z.cells.toList, u.oneCell' = true)
 {base g n cap : Nat} {xs : List Value} (h : w.ownsRow base e size (.slice (some ⟨g, 0, none⟩) n cap) n xs) (o m c : Nat) (hm : n + m ≤ cap) (ho : 0 < m -> o = n * size) :
 ∃ w', (Builtin.clear_ #[t] ty #[.slice (some ⟨g, o, none⟩) m c]).run P w = .ok (.tuple #[]) w' ∧ w'.ownsRow base e size (.slice (some ⟨g, 0, none⟩) n cap) n xs ∧ w.grownBy w' (some g) := by
 cases m with
 | zero => exact ⟨w, by simp [Builtin.clear_, run_underlying ht], h, World.grownBy.refl w _⟩
 | succ m =>
   have ho := ho (by omega);subst ho;generalize hzs : (Builtin.zeroCells z.cells (m + 1)).toList = vs;have hvl : vs.length = (m + 1) * size := by rw [<- hzs, Array.length_toList, size_zeroCells, hz]
   have hv1 : ∀ v ∈ vs, v.oneCell' = true := by
    intro v hv;rw [<- hzs] at hv;simp only [Builtin.zeroCells, Array.toList_map, List.mem_map, Array.mem_toList_iff, Array.mem_range] at hv;obtain ⟨i, hi, rfl⟩ := hv
    rcases Nat.eq_zero_or_pos z.cells.size with h0 | hp
    ·rw [h0, Nat.mul_zero] at hi;exact absurd hi (Nat.not_lt_zero _)
    ·have hlt : i % z.cells.size < z.cells.size := Nat.mod_lt _ hp;rw [getElem!_pos z.cells _ hlt];exact h1 _ (by simp)
   have hb : n * size + vs.length ≤ cap * size := by rw [hvl, <- Nat.add_mul]; exact Nat.mul_le_mul_right _ (by omega)
   have hst := run_storeCells_cells (P := P) g (n * size) vs 0 w (fun j hj => (q48 h _ (by omega)).1) (fun j hj => (q48 h _ (by omega)).2) hv1;simp only [Nat.add_zero] at hst;exact ⟨_, by simp [Builtin.clear_, run_underlying ht, hv, hzs, hst], q6j h (Nat.le_refl _) hb, q2n vs _ _ (World.grownBy.refl w _)⟩
theorem qd7 {P : Program} {o : Oper} {a : Act} {w : World} {K : Act -> World -> Prop} {Q : Exit -> Act -> World -> Prop} (x : Operand) (t : TypeId) (ho : o.op = .call { callee := .builtin .clear, args := #[x], argTypes := #[t] })
 (e : TypeId) (z : Value) (ht : P.underlying t = some (.slice e)) (hv : ∀ w, (zeroValue e).run P w = .ok z w) {size : Nat} (hz : z.cells.size = size) (h1 : ∀ u ∈ z.cells.toList, u.oneCell' = true)
 {base g n cap : Nat} {xs : List Value} (h : w.ownsRow base e size (.slice (some ⟨g, 0, none⟩) n cap) n xs) (ofs m c : Nat) (hx : a.eval x = .slice (some ⟨g, ofs, none⟩) m c) (hm : n + m ≤ cap) (hofs : 0 < m -> ofs = n * size)
 (hK : ∀ w', w'.ownsRow base e size (.slice (some ⟨g, 0, none⟩) n cap) n xs -> w.grownBy w' (some g) -> K (a.put o.dst (.tuple #[])) w') : o.wp P a w K Q := by
 obtain ⟨w', hrun, h2, h3⟩ := qb1 (P := P) w t e o.type z ht hv hz h1 h ofs m c hm hofs;unfold Oper.wp execOp;simp only [ho, resolve, invoke, builtin, Sem.run_bind, Sem.run_pure, Result.andThen_ok, List.map_toArray, List.map_cons, List.map_nil, hx, hrun];exact hK w' h2 h3
theorem q4k {P : Program} {ops : Array Oper} {rest : List Oper} {o : Oper} {a : Act} {w : World} {Q : Exit -> Act -> World -> Prop} (hgd : o.guard = none) (x : Operand) (t : TypeId) (ho : o.op = .call { callee := .builtin .clear, args := #[x], argTypes := #[t] })
 (e : TypeId) (z : Value) (ht : P.underlying t = some (.slice e)) (hv : ∀ w, (zeroValue e).run P w = .ok z w) {size : Nat} (hz : z.cells.size = size) (h1 : ∀ u ∈ z.cells.toList, u.oneCell' = true)
 {base g n cap : Nat} {xs : List Value} (h : w.ownsRow base e size (.slice (some ⟨g, 0, none⟩) n cap) n xs) (ofs m c : Nat) (hx : a.eval x = .slice (some ⟨g, ofs, none⟩) m c) (hm : n + m ≤ cap) (hofs : 0 < m -> ofs = n * size)
 (hK : ∀ w', w'.ownsRow base e size (.slice (some ⟨g, 0, none⟩) n cap) n xs -> w.grownBy w' (some g) -> wpList P ops Q rest (a.put o.dst (.tuple #[])) w') : wpList P ops Q (o :: rest) a w :=
 wpList_plain hgd fun _ hk => qd7 x t ho e z ht hv hz h1 h ofs m c hx hm hofs fun w' h2 h3 => hk _ _ (hK w' h2 h3)
theorem qw {w w' : World} (hb : Below w.heap.size w w') (row : Option Nat) : w.grownBy w' row := ⟨hb.os, hb.tape, hb.output, hb.size, fun k hk _ => hb.block k hk⟩
theorem q0d {w w' : World} {base : Nat} {e : TypeId} {size n : Nat} {v : Value} {xs : List Value} (h : w.ownsRow base e size v n xs) (hb : Below w.heap.size w w') : w'.ownsRow base e size v n xs :=
 h.kept (qw hb none) (by by_cases e : v.ownBlock = none; exact .inl e; exact .inr e)
theorem q3v {w : World} {base : Nat} {e : TypeId} {size n : Nat} {v : Value} {xs : List Value} (h : w.ownsRow base e size v n xs) (hn : 0 < n) : ∃ g cap, v = .slice (some ⟨g, 0, none⟩) n cap ∧ base ≤ g ∧ g < w.heap.size ∧ n ≤ cap ∧ cap ≤ 9223372036854775807 := by
 have hl := h.lt
 rcases h.2 with ⟨_, h0⟩ | ⟨g, cap, _, rfl, hb, _, h1, h2, _, _⟩
 ·omega
 ·exact ⟨g, cap, rfl, hb, (hl g rfl).2, h1, h2⟩
theorem qj {w : World} {base : Nat} {e : TypeId} {size n : Nat} {v : Value} {xs : List Value} (h : w.ownsRow base e size v n xs) : ∃ A c, v = .slice A n c := by
 rcases h.2 with ⟨rfl, rfl⟩ | ⟨g, cap, _, rfl, _⟩
 ·exact ⟨_, _, rfl⟩
 ·exact ⟨_, _, rfl⟩
theorem q04 (w : World) (p : Addr) (u : Value) : w.grownBy (w.setCell p u) (some p.block) := ⟨rfl, rfl, rfl, by simp [World.setCell], fun k _ hne => Below.heap_setCell _ _ _ _ (by rintro rfl; exact hne rfl)⟩
theorem ql {w : World} {base : Nat} {e : TypeId} {size n : Nat} {v : Value} {xs : List Value} (h : w.ownsRow base e size v n xs) {p : Addr} (hp : v.ownBlock ≠ some p.block) (u : Value) : (w.setCell p u).ownsRow base e size v n xs :=
 h.kept (q04 w p u) (.inr hp)
theorem q2h {w w' : World} {row : Option Nat} (hg : w.grownBy w' row) {g : Nat} {cs : Array Value} {e : TypeId} (h : w.heap[g]? = some (.cells cs e (0, 0))) (hne : row ≠ some g) : w'.heap[g]? = some (.cells cs e (0, 0)) := by
 rw [hg.block g ?_ (fun e => hne e.symm), h]
 rcases Nat.lt_or_ge g w.heap.size with hlt | hge
 ·exact hlt
 ·rw [Array.getElem?_eq_none hge] at h
  cases h
theorem q0h {w : World} {g j : Nat} {cs : Array Value} {e : TypeId} (h : w.heap[g]? = some (.cells cs e (0, 0))) (u : Value) : (w.setCell ⟨g, j, none⟩ u).heap[g]? = some (.cells (cs.setIfInBounds j u) e (0, 0)) := by
 simp [World.setCell, Array.getElem?_modify, h]
theorem q91 {P : Program} {w : World} {ops : Array Oper} {o : Oper} {a : Act} {K : Act -> World -> Prop} {Q : Exit -> Act -> World -> Prop} {E : Prop} (hgd : o.guard = none) (s x : Operand) (t : TypeId)
 (ho : o.op = .call { callee := .builtin .append, args := #[s, x], argTypes := #[t, t] })
 (base : Nat) (e : TypeId) (i : TypeInfo) (z : Value) (size bytes : Nat) (ht : P.underlying t = some (.slice e)) (hi : P.info? e = some i) (hz : i.zero = some z)
 (hsize : i.size = size) (hby : i.bytes = bytes) (hzs : z.cells.size = size) (hsz : 0 < size)
 (v : Value) (n : Nat) (xs : List Value) (hs : a.eval s = v) (hown : w.ownsRow base e size v n xs)
 (ad : Addr) (m c : Nat) (news : List Value) (hx : a.eval x = .slice (some ad) m c) (hl : news.length = m * size) (hnews : ∀ j u, news[j]? = some u -> w.cell? (ad.add j) = some u) (h1 : ∀ u ∈ news, u.oneCell' = true)
 (h63 : n + m ≤ maxLen) (hbytes : (n + m) * bytes ≤ 140737488355328) (hbase : base ≤ w.heap.size)
 (h : ∀ v' w', w'.ownsRow base e size v' (n + m) (xs ++ news) -> w.grownBy w' v.ownBlock -> (v' = .slice none 0 0 ↔ v = .slice none 0 0 ∧ m = 0) -> K (a.put o.dst v') w') :
 if Region.wanted o (yielded ops a.tmps) = true then Oper.wp P o a w K Q else E := by
 have hw : Region.wanted o (yielded ops a.tmps) = true := by simp [Region.wanted, hgd]
 rw [if_pos hw];exact wp_append_own w s x t ho base e i z size bytes ht hi hz hsize hby hzs hsz v n xs hs hown ad m c news hx hl hnews h1 h63 hbytes hbase h
theorem qf6 {α : Type} (f : α -> List Value) (n : Nat) (hf : ∀ a, (f a).length = n) (xs : List α) (k : Nat) (x : α) (hk : k < xs.length) : (xs.flatMap f).take (k * n) ++ f x ++ (xs.flatMap f).drop (k * n + (f x).length) = (xs.set k x).flatMap f := by
 rw [hf, show k * n + n = (k + 1) * n from by rw [Nat.add_mul]; omega, q8i f n hf, q8g f n hf, List.set_eq_take_append_cons_drop, if_pos hk, List.flatMap_append, List.flatMap_cons, List.append_assoc]
theorem qgj {α : Type} (f : α -> List Value) (n : Nat) (hf : ∀ a, (f a).length = n) (xs : List α) (k : Nat) : (xs.flatMap f).take (k * n) ++ (xs.flatMap f).drop ((k + 1) * n) = (xs.eraseIdx k).flatMap f := by
 rw [q8i f n hf, q8g f n hf, List.eraseIdx_eq_take_drop_succ, List.flatMap_append]
end Go.Proofs.YtdanebboiekieaaGreatDoor
namespace Go.Proofs.YtdanebboiekieaaGreatDoor
open Go.RowKit
def only (w : World) (S : Nat -> Bool) : World := { w with heap := Array.ofFn (n := w.heap.size) fun i => if S i then w.heap[i] else .cells #[] 0 (0, 0) }
theorem q47 (w : World) (S : Nat -> Bool) : (only w S).heap.size = w.heap.size := by simp [only]
theorem q46 (w : World) (S : Nat -> Bool) (k : Nat) (h : S k = true) : (only w S).heap[k]? = w.heap[k]? := by
 simp only [only, Array.getElem?_ofFn]
 by_cases hk : k < w.heap.size
 ·rw [dif_pos hk, if_pos h, Array.getElem?_eq_getElem hk];rfl
 ·rw [dif_neg hk, Array.getElem?_eq_none (by omega)]
theorem q1w (w : World) (S : Nat -> Bool) (p : Addr) (h : S p.block = true) : (only w S).cell? p = w.cell? p := World.cell?_of_block (q46 w S p.block h)
theorem q3h {w : World} {S : Nat -> Bool} {p : Addr} {u : Value} (h : (only w S).cell? p = some u) : w.cell? p = some u ∧ S p.block = true := by
 cases hS : S p.block
 ·exfalso;unfold World.cell? at h;simp only [only, Array.getElem?_ofFn] at h
  by_cases hk : p.block < w.heap.size
  ·rw [dif_pos hk] at h;simp [hS] at h
  ·rw [dif_neg hk] at h
   cases h
 ·rw [q1w w S p hS] at h;exact ⟨h, rfl⟩
theorem q4v {w : World} {base : Nat} {e : TypeId} {size : Nat} {v : Value} {n : Nat} {xs : List Value} (h : w.ownsRow base e size v n xs) : (only w fun k => decide (base ≤ k)).ownsRow base e size v n xs := by
 obtain ⟨h1, h2⟩ := h;refine ⟨h1, ?_⟩
 rcases h2 with h2 | ⟨g, cap, cur, hv, hg, hh, r⟩
 ·exact .inl h2
 ·exact .inr ⟨g, cap, cur, hv, hg, by rw [q46 _ _ _ (by simpa using hg)]; exact hh, r⟩
theorem q8j (n : Nat) : ∀ (css : List (List Value)), (∀ cs ∈ css, cs.length = n) -> ∀ (k j : Nat) (cs : List Value), css[k]? = some cs -> j < n -> css.flatten[k * n + j]? = cs[j]?
 | [], _, k, j, x, h, _ => by simp at h
 | y :: ys, hf, 0, j, x, h, hj => by
   simp at h;subst h;rw [List.flatten_cons, Nat.zero_mul, Nat.zero_add, List.getElem?_append_left (by rw [hf y (by simp)]; exact hj)]
 | y :: ys, hf, k + 1, j, x, h, hj => by
   rw [List.getElem?_cons_succ] at h;have hy := hf y (by simp);rw [List.flatten_cons, List.getElem?_append_right (by rw [hy, Nat.add_mul]; omega), hy, show (k + 1) * n + j - n = k * n + j from by rw [Nat.add_mul]; omega];exact q8j n ys (fun cs hc => hf cs (by simp [hc])) k j x h hj
def Apart {α : Type} (r : Rp α) (X : Nat -> Prop) (w : World) (v : Value) (x : α) (cs : List Value) : Prop :=
 ∃ w0 : World, r.rep w0 w.heap.size x cs ∧ ∀ (p : Addr) u, w0.cell? p = some u -> w.cell? p = some u ∧ ¬ X p.block ∧ v.ownBlock ≠ some p.block
structure Built {α : Type} (r : Rp α) (base : Nat) (e : TypeId) (X : Nat -> Prop) (w : World) (v : Value) (xs : List α) (css : List (List Value)) : Prop where
 len : css.length = xs.length
 own : w.ownsRow base e r.size v xs.length css.flatten
 each : ∀ (k : Nat) (x : α) cs, xs[k]? = some x -> css[k]? = some cs -> Apart r X w v x cs
 far : ∀ k, X k -> k < base
theorem Built.nil {α : Type} (r : Rp α) (base : Nat) (e : TypeId) (X : Nat -> Prop) (w : World) (hX : ∀ k, X k -> k < base) : Built r base e X w (.slice none 0 0) [] [] :=
 ⟨rfl, World.ownsRow_nil _ _ _ _, fun k x cs h => by simp at h, hX⟩
theorem Apart.keep {α : Type} {r : Rp α} {X : Nat -> Prop} {w w' : World} {v : Value} {x : α} {cs : List Value} (h : Apart r X w v x cs) (hs : w.heap.size ≤ w'.heap.size) (hk : ∀ k, k < w.heap.size -> ¬ X k -> v.ownBlock ≠ some k -> w'.heap[k]? = w.heap[k]?) :
 Apart r X w' v x cs := by
 obtain ⟨w0, h1, h2⟩ := h;refine ⟨w0, r.more _ _ _ _ _ h1 hs, fun p u hp => ?_⟩;obtain ⟨h3, h4, h5⟩ := h2 p u hp;have hl : p.block < w.heap.size := World.block_lt_of_cell? w _ h3;exact ⟨(World.cell?_of_block (hk _ hl h4 h5)).trans h3, h4, h5⟩
theorem Built.keep {α : Type} {r : Rp α} {base : Nat} {e : TypeId} {X : Nat -> Prop} {w w' : World} {v : Value} {xs : List α} {css : List (List Value)} (h : Built r base e X w v xs css) (hs : w.heap.size ≤ w'.heap.size) (hk : ∀ k, k < w.heap.size -> ¬ X k -> w'.heap[k]? = w.heap[k]?) :
 Built r base e X w' v xs css := by
 refine ⟨h.len, ?_, fun k x cs h1 h2 => (h.each k x cs h1 h2).keep hs fun k hl hx _ => hk k hl hx, h.far⟩;obtain ⟨h1, h2⟩ := h.own;refine ⟨h1, ?_⟩
 rcases h2 with h2 | ⟨g, cap, cur, hv, hg, hh, rest⟩
 ·exact .inl h2
 ·refine .inr ⟨g, cap, cur, hv, hg, ?_, rest⟩;rw [hk g (Array.getElem?_eq_some_iff.1 hh).1 (fun hx => by have := h.far g hx; omega)];exact hh
theorem Built.below {α : Type} {r : Rp α} {base B : Nat} {e : TypeId} {X : Nat -> Prop} {w w' : World} {v : Value} {xs : List α} {css : List (List Value)} (h : Built r base e X w v xs css) (hb : Below B w w') (hB : w.heap.size ≤ B) : Built r base e X w' v xs css :=
 h.keep hb.size fun k hk _ => hb.block k (by omega)
theorem Built.alloc {α : Type} {r : Rp α} {base : Nat} {e : TypeId} {X : Nat -> Prop} {w : World} {v : Value} {xs : List α} {css : List (List Value)} (h : Built r base e X w v xs css) (o : Obj) : Built r base e X (w.alloc o) v xs css :=
 h.below ((Below.refl _ _).alloc (Nat.le_refl _) o) (Nat.le_refl _)
theorem Built.push {α : Type} {r : Rp α} {base : Nat} {e : TypeId} {X : Nat -> Prop} {w w1 : World} {v : Value} {xs : List α} {css : List (List Value)} (h : Built r base e X w v xs css) {x : α} {cs : List Value} {g cap n : Nat}
 (hown : w1.ownsRow base e r.size (.slice (some ⟨g, 0, none⟩) n cap) n (css.flatten ++ cs)) (hn : n = xs.length + 1) (hg : w.grownBy w1 v.ownBlock) (hat : v.ownBlock = some g ∨ g = w.heap.size) (hx : Apart r X w v x cs) :
 Built r base e X w1 (.slice (some ⟨g, 0, none⟩) n cap) (xs ++ [x]) (css ++ [cs]) := by
 subst hn
 have hap : ∀ (y : α) (ds : List Value), Apart r X w v y ds -> Apart r X w1 (.slice (some ⟨g, 0, none⟩) (xs.length + 1) cap) y ds := by
  rintro y ds ⟨w0, h1, h2⟩;refine ⟨w0, r.more _ _ _ _ _ h1 hg.size, fun p u hp => ?_⟩;obtain ⟨h3, h4, h5⟩ := h2 p u hp;have hl : p.block < w.heap.size := World.block_lt_of_cell? w _ h3;refine ⟨(World.cell?_of_block (hg.block _ hl (fun e => h5 e.symm))).trans h3, h4, ?_⟩
  rcases hat with e | e
  ·rw [e] at h5;simpa [Value.ownBlock] using h5
  ·simp [Value.ownBlock];omega
 refine ⟨by simp [h.len], by simpa using hown, fun k y ds h1 h2 => ?_, h.far⟩
 rcases Nat.lt_or_ge k xs.length with hlt | hge
 ·rw [List.getElem?_append_left hlt] at h1;rw [List.getElem?_append_left (by rw [h.len]; exact hlt)] at h2;exact hap _ _ (h.each k y ds h1 h2)
 ·rw [List.getElem?_append_right hge] at h1;rw [List.getElem?_append_right (by rw [h.len]; exact hge), h.len] at h2
  rcases Nat.eq_zero_or_pos (k - xs.length) with h0 | h0
  ·rw [h0] at h1 h2;simp at h1 h2;subst h1 h2;exact hap _ _ hx
  ·rw [List.getElem?_eq_none (by simp; omega)] at h1
   cases h1
theorem Built.SL {α : Type} {r : Rp α} {base B : Nat} {e : TypeId} {X : Nat -> Prop} {w : World} {v : Value} {xs : List α} {css : List (List Value)} (h : Built r base e X w v xs css) (hB : w.heap.size ≤ B) : r.SL w B xs v := by
 have hr : ∀ k x cs, xs[k]? = some x -> css[k]? = some cs -> r.rep w B x cs := fun k x cs h1 h2 => by
  obtain ⟨w0, h3, h4⟩ := h.each k x cs h1 h2;exact r.more _ _ _ _ _ (r.mono _ _ _ _ _ h3 fun p u _ hp => (h4 p u hp).1) hB
 have hlen : ∀ cs ∈ css, cs.length = r.size := fun cs hc => by
  obtain ⟨k, hk, e⟩ := List.mem_iff_getElem.1 hc;have hk' : k < xs.length := by rw [<- h.len]; exact hk
  have e' : css[k]? = some cs := by rw [List.getElem?_eq_getElem hk, e]
  exact r.len _ _ _ _ (hr k _ cs (List.getElem?_eq_getElem hk') e')
 obtain ⟨h1, h2⟩ := h.own
 rcases h2 with ⟨rfl, hn⟩ | ⟨g, cap, cur, rfl, _, hh, hnc, hcm, hcs, htk⟩
 ·have : xs = [] := List.eq_nil_of_length_eq_zero hn;subst this;exact Rp.SL.nil _ _ _
 ·refine ⟨_, cap, rfl, by omega, hnc, fun hp => ⟨g, 0, rfl, ?_, fun k x hk => ?_⟩⟩
  ·have := (Array.getElem?_eq_some_iff.1 hh).1;omega
  ·have hkl : k < css.length := by rw [h.len]; exact (List.getElem?_eq_some_iff.1 hk).1
   have hk2 : css[k]? = some css[k] := List.getElem?_eq_getElem hkl;refine ⟨css[k], hr k x _ hk hk2, fun j u hj => ?_⟩;have hjn : j < r.size := by rw [<- hlen css[k] (List.getElem_mem hkl)]; exact (List.getElem?_eq_some_iff.1 hj).1
   have hg := q8j r.size css hlen k j _ hk2 hjn;rw [<- htk, hj, List.getElem?_take] at hg
   split at hg
   ·rw [Array.getElem?_toList] at hg;rw [Nat.zero_add];simpa [World.cell?, hh] using hg
   ·cases hg
theorem Apart.of_only {α : Type} {r : Rp α} {X : Nat -> Prop} {w : World} {v : Value} {x : α} {cs : List Value} {base : Nat} (h : r.rep (only w fun k => decide (base ≤ k)) w.heap.size x cs) (hX : ∀ k, X k -> k < base) (hv : ∀ g, v.ownBlock = some g -> g < base) : Apart r X w v x cs := by
 refine ⟨_, h, fun p u hp => ?_⟩;obtain ⟨h1, h2⟩ := q3h hp;simp at h2;refine ⟨h1, fun hx => by have := hX _ hx; omega, fun e => by have := hv _ e; omega⟩
theorem Rp.SL.news {α : Type} {r : Rp α} {f : α -> List Value} (hr : ∀ w B a cs, r.rep w B a cs -> cs = f a) (hf : ∀ a, (f a).length = r.size) (hpos : 0 < r.size) {w : World} {B : Nat} {xs : List α} {a : Addr} {n c : Nat} (h : r.SL w B xs (.slice (some a) n c)) :
 ∀ j u, (xs.flatMap f)[j]? = some u -> w.cell? (a.add j) = some u := by
 intro j u hj
 have hlt : j < xs.length * r.size := by
  have := (List.getElem?_eq_some_iff.1 hj).1
  rwa [q0e f r.size hf] at this
 have hk : j / r.size < xs.length := by rw [Nat.div_lt_iff_lt_mul hpos]; exact hlt
 obtain ⟨b', off', cs, hA, _, hrep, hcs⟩ := h.at_ (List.getElem?_eq_getElem hk);injection hA with hA
 subst hA;have := hr _ _ _ _ hrep;subst this;have hm : j % r.size < r.size := Nat.mod_lt _ hpos;have hg := Rp.flat_get f r.size hf xs (j / r.size) (j % r.size) _ (List.getElem?_eq_getElem hk) hm;have he : j / r.size * r.size + j % r.size = j := by rw [Nat.mul_comm]; exact Nat.div_add_mod j r.size
 rw [he, hj] at hg;have := hcs (j % r.size) u hg.symm;rw [Nat.add_assoc, he] at this;rw [<- this];unfold Addr.add
 by_cases h0 : j = 0 <;> simp [h0]
theorem qg5 (a : Addr) (j : Nat) : (a.add j).block = a.block := by unfold Addr.add; split <;> rfl
def Rp.SLF {α : Type} (r : Rp α) (w : World) (b B : Nat) (xs : List α) (v : Value) : Prop := r.SL (only w fun k => decide (b ≤ k)) B xs v
theorem Rp.SLF.SL {α : Type} {r : Rp α} {w : World} {b B : Nat} {xs : List α} {v : Value} (h : r.SLF w b B xs v) : r.SL w B xs v := h.mono fun p u _ hp => (q3h hp).1
theorem Rp.SLF.more {α : Type} {r : Rp α} {w : World} {b b' B B' : Nat} {xs : List α} {v : Value} (h : r.SLF w b B xs v) (hb : b' ≤ b) (hB : B ≤ B') : r.SLF w b' B' xs v := by
 refine Rp.SL.more (Rp.SL.mono (show r.SL _ B xs v from h) fun p u _ hp => ?_) hB;obtain ⟨h1, h2⟩ := q3h hp;rw [q1w _ _ _ (by simp at h2 ⊢; omega)];exact h1
theorem Rp.SLF.keep {α : Type} {r : Rp α} {w w' : World} {b B : Nat} {xs : List α} {v : Value} (h : r.SLF w b B xs v) (hk : ∀ k, b ≤ k -> k < w.heap.size -> w'.heap[k]? = w.heap[k]?) : r.SLF w' b B xs v := by
 refine Rp.SL.mono (show r.SL _ B xs v from h) fun p u _ hp => ?_;obtain ⟨h1, h2⟩ := q3h hp;rw [q1w _ _ _ h2];exact (World.cell?_of_block (hk _ (by simpa using h2) (World.block_lt_of_cell? w _ h1))).trans h1
theorem Rp.SLF.below {α : Type} {r : Rp α} {w w' : World} {b B B' : Nat} {xs : List α} {v : Value} (h : r.SLF w b B xs v) (hb : Below B' w w') (hB : w.heap.size ≤ B') : r.SLF w' b B xs v := h.keep fun k _ hk => hb.block k (by omega)
theorem Rp.SLF.setCell {α : Type} {r : Rp α} {w : World} {b B : Nat} {xs : List α} {v : Value} (h : r.SLF w b B xs v) (p : Addr) (hp : p.block < b) (u : Value) : r.SLF (w.setCell p u) b B xs v := h.keep fun k hk _ => Below.heap_setCell _ _ _ _ (by omega)
theorem Rp.SLF.nil {α : Type} (r : Rp α) (w : World) (b B : Nat) : r.SLF w b B [] (.slice none 0 0) := Rp.SL.nil _ _ _
theorem Rp.SLF.cases_ {α : Type} {r : Rp α} {w : World} {b B : Nat} {xs : List α} {v : Value} (h : r.SLF w b B xs v) : ∃ A c, v = .slice A xs.length c ∧ xs.length ≤ 9223372036854775807 ∧ xs.length ≤ c ∧ r.SLF w b B xs (.slice A xs.length c) := Rp.SL.cases_ h
theorem Built.SLF {α : Type} {r : Rp α} {base b B : Nat} {e : TypeId} {X : Nat -> Prop} {w : World} {v : Value} {xs : List α} {css : List (List Value)} (h : Built r base e X w v xs css) (hX : ∀ k, k < b -> X k) (hb : b ≤ base) (hB : w.heap.size ≤ B) : r.SLF w b B xs v := by
 have h' : Built r base e X (only w fun k => decide (b ≤ k)) v xs css := by
  refine ⟨h.len, ?_, fun k x cs h1 h2 => ?_, h.far⟩
  ·obtain ⟨h1, h2⟩ := h.own;refine ⟨h1, ?_⟩
   rcases h2 with h2 | ⟨g, cap, cur, hv, hg, hh, rest⟩
   ·exact .inl h2
   ·exact .inr ⟨g, cap, cur, hv, hg, by rw [q46 _ _ _ (by simp; omega)]; exact hh, rest⟩
  ·obtain ⟨w0, h3, h4⟩ := h.each k x cs h1 h2;refine ⟨w0, by rw [q47]; exact h3, fun p u hp => ?_⟩;obtain ⟨h5, h6, h7⟩ := h4 p u hp;refine ⟨?_, h6, h7⟩
   rw [q1w _ _ _ (by
    rcases Nat.lt_or_ge p.block b with hlt | hge
    ·exact absurd (hX _ hlt) h6
    ·simpa using hge)]
   exact h5
 exact h'.SL (by rw [q47]; exact hB)
end Go.Proofs.YtdanebboiekieaaGreatDoor
namespace Go.Proofs.YtdanebboiekieaaGreatDoor
open Go.RowKit
end Go.Proofs.YtdanebboiekieaaGreatDoor
namespace Go.Proofs.YtdanebboiekieaaGreatDoor
open Go.RowKit
theorem lh {p : Prop} (h : p) : RowKit.Hid p := h
theorem lh2 {p0 p1 : Prop} (h0 : p0) (h1 : p1) : RowKit.Hid p0 ∧ RowKit.Hid p1 := ⟨h0, h1⟩
theorem lh3 {p0 p1 p2 : Prop} (h0 : p0) (h1 : p1) (h2 : p2) : RowKit.Hid p0 ∧ RowKit.Hid p1 ∧ RowKit.Hid p2 := ⟨h0, h1, h2⟩
theorem lh4 {p0 p1 p2 p3 : Prop} (h0 : p0) (h1 : p1) (h2 : p2) (h3 : p3) : RowKit.Hid p0 ∧ RowKit.Hid p1 ∧ RowKit.Hid p2 ∧ RowKit.Hid p3 := ⟨h0, h1, h2, h3⟩
theorem lh5 {p0 p1 p2 p3 p4 : Prop} (h0 : p0) (h1 : p1) (h2 : p2) (h3 : p3) (h4 : p4) : RowKit.Hid p0 ∧ RowKit.Hid p1 ∧ RowKit.Hid p2 ∧ RowKit.Hid p3 ∧ RowKit.Hid p4 := ⟨h0, h1, h2, h3, h4⟩
theorem lh6 {p0 p1 p2 p3 p4 p5 : Prop} (h0 : p0) (h1 : p1) (h2 : p2) (h3 : p3) (h4 : p4) (h5 : p5) : RowKit.Hid p0 ∧ RowKit.Hid p1 ∧ RowKit.Hid p2 ∧ RowKit.Hid p3 ∧ RowKit.Hid p4 ∧ RowKit.Hid p5 := ⟨h0, h1, h2, h3, h4, h5⟩
theorem lh7 {p0 p1 p2 p3 p4 p5 p6 : Prop} (h0 : p0) (h1 : p1) (h2 : p2) (h3 : p3) (h4 : p4) (h5 : p5) (h6 : p6) : RowKit.Hid p0 ∧ RowKit.Hid p1 ∧ RowKit.Hid p2 ∧ RowKit.Hid p3 ∧ RowKit.Hid p4 ∧ RowKit.Hid p5 ∧ RowKit.Hid p6 := ⟨h0, h1, h2, h3, h4, h5, h6⟩
theorem lh8 {p0 p1 p2 p3 p4 p5 p6 p7 : Prop} (h0 : p0) (h1 : p1) (h2 : p2) (h3 : p3) (h4 : p4) (h5 : p5) (h6 : p6) (h7 : p7) : RowKit.Hid p0 ∧ RowKit.Hid p1 ∧ RowKit.Hid p2 ∧ RowKit.Hid p3 ∧ RowKit.Hid p4 ∧ RowKit.Hid p5 ∧ RowKit.Hid p6 ∧ RowKit.Hid p7 := ⟨h0, h1, h2, h3, h4, h5, h6, h7⟩
theorem lh9 {p0 p1 p2 p3 p4 p5 p6 p7 p8 : Prop} (h0 : p0) (h1 : p1) (h2 : p2) (h3 : p3) (h4 : p4) (h5 : p5) (h6 : p6) (h7 : p7) (h8 : p8) : RowKit.Hid p0 ∧ RowKit.Hid p1 ∧ RowKit.Hid p2 ∧ RowKit.Hid p3 ∧ RowKit.Hid p4 ∧ RowKit.Hid p5 ∧ RowKit.Hid p6 ∧ RowKit.Hid p7 ∧ RowKit.Hid p8 := ⟨h0, h1, h2, h3, h4, h5, h6, h7, h8⟩
theorem lh10 {p0 p1 p2 p3 p4 p5 p6 p7 p8 p9 : Prop} (h0 : p0) (h1 : p1) (h2 : p2) (h3 : p3) (h4 : p4) (h5 : p5) (h6 : p6) (h7 : p7) (h8 : p8) (h9 : p9) : RowKit.Hid p0 ∧ RowKit.Hid p1 ∧ RowKit.Hid p2 ∧ RowKit.Hid p3 ∧ RowKit.Hid p4 ∧ RowKit.Hid p5 ∧ RowKit.Hid p6 ∧ RowKit.Hid p7 ∧ RowKit.Hid p8 ∧ RowKit.Hid p9 := ⟨h0, h1, h2, h3, h4, h5, h6, h7, h8, h9⟩
theorem lh11 {p0 p1 p2 p3 p4 p5 p6 p7 p8 p9 p10 : Prop} (h0 : p0) (h1 : p1) (h2 : p2) (h3 : p3) (h4 : p4) (h5 : p5) (h6 : p6) (h7 : p7) (h8 : p8) (h9 : p9) (h10 : p10) : RowKit.Hid p0 ∧ RowKit.Hid p1 ∧ RowKit.Hid p2 ∧ RowKit.Hid p3 ∧ RowKit.Hid p4 ∧ RowKit.Hid p5 ∧ RowKit.Hid p6 ∧ RowKit.Hid p7 ∧ RowKit.Hid p8 ∧ RowKit.Hid p9 ∧ RowKit.Hid p10 := ⟨h0, h1, h2, h3, h4, h5, h6, h7, h8, h9, h10⟩
theorem lh12 {p0 p1 p2 p3 p4 p5 p6 p7 p8 p9 p10 p11 : Prop} (h0 : p0) (h1 : p1) (h2 : p2) (h3 : p3) (h4 : p4) (h5 : p5) (h6 : p6) (h7 : p7) (h8 : p8) (h9 : p9) (h10 : p10) (h11 : p11) : RowKit.Hid p0 ∧ RowKit.Hid p1 ∧ RowKit.Hid p2 ∧ RowKit.Hid p3 ∧ RowKit.Hid p4 ∧ RowKit.Hid p5 ∧ RowKit.Hid p6 ∧ RowKit.Hid p7 ∧ RowKit.Hid p8 ∧ RowKit.Hid p9 ∧ RowKit.Hid p10 ∧ RowKit.Hid p11 := ⟨h0, h1, h2, h3, h4, h5, h6, h7, h8, h9, h10, h11⟩
theorem btt {B C : Nat} {a b c : World} (H : RowKit.Hid (Below B a b)) (h : Below C b c) (hz : B ≤ C) : RowKit.Hid (Below B a c) := H.out.trans (h.mono hz)
theorem fzz {w : World} {b : Nat} {cs : Array Value} {T : TypeId} (h : w.heap[b]? = some (.cells cs T (0, 0))) (k : Nat) : w.frozen? ⟨b, k, none⟩ = false := by simp [World.frozen?, h]
theorem nmm {α : Type} (x : α) : ∃ y, y = x := ⟨_, rfl⟩
theorem bzz {a b c : World} (H : RowKit.Hid (Below a.heap.size a b)) (h : Below b.heap.size b c) : Below a.heap.size a c := H.out.trans (h.mono H.out.size)
theorem nnn (k : Nat) : (0 : Int) ≤ (k : Int) := Int.natCast_nonneg _
theorem box1 (w : World) (o : Obj) {E : Nat} (e : E = w.heap.size) : ∃ W, W = w.alloc o ∧ Below w.heap.size w W ∧ W.heap[E]? = some o := ⟨_, rfl, (Below.refl _ _).alloc (Nat.le_refl _) _, by subst e; exact heap_alloc_new _ _⟩
end Go.Proofs.YtdanebboiekieaaGreatDoor
namespace Go.Proofs.YtdanebboiekieaaGreatDoor
open Go.RowKit
theorem qd (n lo hi : Int) (w : World) (R : Ending -> World -> Prop) (hR : R (.returned (.bool (decide (lo ≤ n ∧ n ≤ hi)))) w) :
 Calls Tryz.prog 38 #[.int .i64 n, .int .i64 lo, .int .i64 hi] w R := by
 by_cases h : lo ≤ n
 ·rw [show decide (lo ≤ n ∧ n ≤ hi) = decide (n ≤ hi) from by simp [h]] at hR
  go_enter Tryz.func38, Tryz.ntmps38
  go_wp2;exact hR
 ·rw [show decide (lo ≤ n ∧ n ≤ hi) = false from by simp [h]] at hR
  go_enter Tryz.func38, Tryz.ntmps38
  go_wp2;exact hR
theorem q07 (c a : Int) (w : World) (R : Ending -> World -> Prop) (hR : ∀ w', Below w.heap.size w w' -> R (.returned (.agg #[.int .i64 c, .int .i64 a])) w') :
 Calls Tryz.prog 39 #[.int .i64 c, .int .i64 a] w R := by
 go_enter Tryz.func39, Tryz.ntmps39
 go_wp2;refine bodyPost_ret (v := (.agg #[.int .i64 ((c, a)).1, .int .i64 ((c, a)).2])) (by simp [results, Tryz.results39, go_sem]) rfl ?_;exact hR _ bl0
theorem q7o : (Tryz.prog.info? 45).map (fun i => (i.zero, i.size, i.bytes)) = some (some (.agg #[.int .i64 0, .int .i64 0, .int .i64 0, .int .i64 0, .int .i64 0]), 5, 40) := by kernel_rfl
structure Mac where
 op : Int
 dst : Int
 a : Int
 b : Int
 n : Int
def Mac.tup (m : Mac) : Int × Int × Int × Int × Int := (m.op, m.dst, m.a, m.b, m.n)
theorem Mac.tup_inj {m n : Mac} (h : m.tup = n.tup) : m = n := by
 cases m
 cases n
 simpa [Mac.tup] using h
instance : DecidableEq Mac := fun m n => if h : m.tup = n.tup then isTrue (Mac.tup_inj h) else isFalse (fun e => h (by rw [e]))
def Mac.cells (m : Mac) : List Value := [.int .i64 m.op, .int .i64 m.dst, .int .i64 m.a, .int .i64 m.b, .int .i64 m.n]
def rpMac : Rp Mac := (rpInt.pair (rpInt.pair (rpInt.pair (rpInt.pair rpInt)))).as_ Mac.tup
theorem rpMac_rep {w : World} {B : Nat} {m : Mac} {cs : List Value} : rpMac.rep w B m cs ↔ cs = m.cells := by
 simp [rpMac, Rp.as_, Rp.pair, rpInt, Mac.tup, Mac.cells]
theorem q61 {w : World} {B base : Nat} {e : TypeId} {v : Value} {xs : List Mac} (h : w.ownsRow base e 5 v xs.length (xs.flatMap Mac.cells)) (hB : w.heap.size ≤ B) : rpMac.SL w B xs v :=
 Rp.SL.of_own (r := rpMac) (fun _ _ _ => rpMac_rep.2 rfl) (fun _ => rfl) h hB
theorem q0m {fn : Func} {p : Tmp} (h : fn.results = #[.cell p 30]) {tmps : Array Value} {b : Nat} {w : World} {x y : Value} (hp : tmps.getD p undef = .pointer (some ⟨b, 0, none⟩))
 (hc : w.cell? ⟨b, 0, none⟩ = some x ∧ w.cell? ⟨b, 1, none⟩ = some y) : (results fn tmps).run Tryz.prog w = .ok (.agg #[x, y]) w := by
 rw [Array.getD_eq_getD_getElem?] at hp;simp [results, h, hp, go_sem, hc.1, hc.2]
theorem Rp.SL.mac_at {w : World} {B : Nat} {xs : List Mac} {A : Option Addr} {n c k : Nat} (h : rpMac.SL w B xs (.slice A n c)) (hk : k < xs.length) : ∃ b off m, A = some ⟨b, off, none⟩ ∧ b < B ∧ xs[k]? = some m ∧
 w.cell? ⟨b, off + k * 5, none⟩ = some (.int .i64 m.op) ∧ w.cell? ⟨b, off + k * 5 + 1, none⟩ = some (.int .i64 m.dst) ∧ w.cell? ⟨b, off + k * 5 + 2, none⟩ = some (.int .i64 m.a) ∧ w.cell? ⟨b, off + k * 5 + 3, none⟩ = some (.int .i64 m.b) ∧ w.cell? ⟨b, off + k * 5 + 4, none⟩ = some (.int .i64 m.n) := by
 obtain ⟨b, off, cs, hA, hb, hr, hcs⟩ := h.at_ (List.getElem?_eq_getElem hk);rw [rpMac_rep] at hr;subst hr;exact ⟨b, off, xs[k], hA, hb, List.getElem?_eq_getElem hk, hcs 0 _ rfl, hcs 1 _ rfl, hcs 2 _ rfl, hcs 3 _ rfl, hcs 4 _ rfl⟩
end Go.Proofs.YtdanebboiekieaaGreatDoor
namespace Go.Proofs.YtdanebboiekieaaGreatDoor
structure Shape where
 d : Bool
 a : Bool
 b : Bool
 n : Int
def shapeTab : List Shape :=
 [⟨false, false, false, 0⟩, ⟨true, false, false, 1⟩, ⟨true, true, false, 0⟩, ⟨true, true, false, 0⟩, ⟨true, true, false, 0⟩] ++
 List.replicate 14 ⟨true, true, true, 0⟩ ++ List.replicate 14 ⟨true, true, false, 1⟩ ++
 [⟨true, true, false, 1⟩, ⟨false, true, true, 1⟩, ⟨true, false, false, 3⟩, ⟨false, true, false, 3⟩, ⟨false, false, false, 2⟩, ⟨false, true, false, 2⟩, ⟨false, true, false, 2⟩] ++
 List.replicate 4 ⟨false, true, true, 2⟩ ++ [⟨false, false, false, 4⟩, ⟨false, false, false, 0⟩, ⟨true, false, false, 0⟩, ⟨false, true, false, 0⟩]
def qu (op : Int) : Shape := if 1 ≤ op ∧ op ≤ 47 then shapeTab.getD op.toNat ⟨false, false, false, 0⟩ else ⟨false, false, false, 0⟩
def known (op : Int) : Bool := decide (1 ≤ op ∧ op ≤ 47)
def q0g (used : Bool) (r : Int) : Int := if used then (if r < 0 ∨ 15 < r then 3 else 0) else if r ≠ 0 then 5 else 0
def q09 (kind n many : Int) : Int :=
 if kind = 1 then 0 else if kind = 0 then (if n ≠ 0 then 5 else 0) else if kind = 4 then (if n < 0 then 3 else 0)
 else if n < 0 ∨ (if kind = 3 then 120 else many) ≤ n then 3 else 0
def macF (m : Mac) (many : Int) : Int :=
 if known m.op = false then 4 else
 let s := qu m.op
 if q0g s.d m.dst = 3 ∨ q0g s.a m.a = 3 ∨ q0g s.b m.b = 3 ∨ q09 s.n m.n many = 3 then 3
 else if q0g s.d m.dst = 5 ∨ q0g s.a m.a = 5 ∨ q0g s.b m.b = 5 ∨ q09 s.n m.n many = 5 then 5 else 0
def q1i (l : List Mac) : Nat -> Nat -> Int × Int
 | 0, _ => if ((l.getD (l.length - 1) ⟨0, 0, 0, 0, 0⟩).op = 37 ∨ (l.getD (l.length - 1) ⟨0, 0, 0, 0, 0⟩).op = 45) then (0, 0) else (5, (l.length : Int) - 1)
 | m + 1, i => if macF (l.getD i ⟨0, 0, 0, 0, 0⟩) l.length ≠ 0 then (macF (l.getD i ⟨0, 0, 0, 0, 0⟩) l.length, (i : Int)) else q1i l m (i + 1)
def q0v (l : List Mac) : Int × Int := if 5000 < l.length then (2, 0) else if l = [] then (5, 0) else q1i l l.length 0
end Go.Proofs.YtdanebboiekieaaGreatDoor
namespace Go.Proofs.YtdanebboiekieaaGreatDoor
open Go.RowKit
structure Mend where
 at_ : Int
 name : ByteArray
structure Section where
 name : ByteArray
 code : List UInt8
 mends : List Mend
structure Global where
 name : ByteArray
 size : Int
 init : List Int
structure Object where
 globals : List Global
 sections : List Section
def rpGlobal : Rp Global := (rpStr.pair (rpInt.pair rpInt.slice)).as_ fun g => (g.name, g.size, g.init)
def q6e (i : Nat) (c : UInt8) : Bool :=
 decide ((97 ≤ c.toNat ∧ c.toNat ≤ 122) ∨ (65 ≤ c.toNat ∧ c.toNat ≤ 90) ∨ c.toNat = 95 ∨ (0 < i ∧ 48 ≤ c.toNat ∧ c.toNat ≤ 57))
def q1p (s : ByteArray) : Nat -> Nat -> Bool
 | 0, _ => true
 | m + 1, i => q6e i (s.get! i) && q1p s m (i + 1)
def q1b (s : ByteArray) : Bool := decide (1 ≤ s.size ∧ s.size ≤ 12) && q1p s s.size 0
def q0n (l : List Global) : Nat -> Nat -> Int -> Int × Int
 | 0, _, _ => (0, 0)
 | m + 1, i, sum =>
   match l[i]? with
   | none => (0, 0)
   | some g =>
     if q1b g.name = false then (12, (i : Int))
     else if (l.take i).any (fun o => decide (o.name = g.name)) = true then (7, (i : Int))
     else if g.size < 1 ∨ 200 < g.size then (3, (i : Int))
     else if g.size < g.init.length then (9, (i : Int))
     else if 200 < sum + g.size then (10, (i : Int))
     else q0n l m (i + 1) (sum + g.size)
theorem qcu {w : World} {B : Nat} {g : Global} {cs : List Value} (h : rpGlobal.rep w B g cs) : ∃ v1, cs = [.string g.name, .int .i64 g.size, v1] ∧ rpInt.SL w B g.init v1 := by
 obtain ⟨c1, c2, rfl, rfl, c3, c4, rfl, rfl, v1, rfl, h1⟩ := h;exact ⟨v1, rfl, h1⟩
theorem Rp.SL.global_at {w : World} {B : Nat} {xs : List Global} {A : Option Addr} {n c k : Nat} (h : rpGlobal.SL w B xs (.slice A n c)) (hk : k < xs.length) : ∃ b off g v1, A = some ⟨b, off, none⟩ ∧ b < B ∧ xs[k]? = some g ∧ rpInt.SL w B g.init v1 ∧
 w.cell? ⟨b, off + k * 3, none⟩ = some (.string g.name) ∧ w.cell? ⟨b, off + k * 3 + 1, none⟩ = some (.int .i64 g.size) ∧ w.cell? ⟨b, off + k * 3 + 2, none⟩ = some v1 := by
 obtain ⟨b, off, cs, hA, hb, hr, hcs⟩ := h.at_ (List.getElem?_eq_getElem hk);obtain ⟨v1, rfl, h1⟩ := qcu hr;exact ⟨b, off, xs[k], v1, hA, hb, List.getElem?_eq_getElem hk, h1, hcs 0 _ rfl, hcs 1 _ rfl, hcs 2 _ rfl⟩
end Go.Proofs.YtdanebboiekieaaGreatDoor
namespace Go.Proofs.YtdanebboiekieaaGreatDoor
end Go.Proofs.YtdanebboiekieaaGreatDoor
namespace Go.Proofs.YtdanebboiekieaaGreatDoor
open Go.RowKit
theorem qja (a b : ByteArray) : (a.toList == b.toList) = decide (a = b) := by
 by_cases h : a = b
 ·subst h; simp
 ·rw [decide_eq_false h];apply beq_false_of_ne;intro e;exact h (ByteArray.ext (by simpa [ByteArray.toList_eq] using e))
end Go.Proofs.YtdanebboiekieaaGreatDoor
namespace Go.Proofs.YtdanebboiekieaaGreatDoor
open Go.RowKit
end Go.Proofs.YtdanebboiekieaaGreatDoor
namespace Go.Proofs.YtdanebboiekieaaGreatDoor
open Go.RowKit
structure Move where
 to : Int
 src : Int
def Move.tup (m : Move) : Int × Int := (m.to, m.src)
theorem Move.tup_inj {m n : Move} (h : m.tup = n.tup) : m = n := by
 cases m
 cases n
 simpa [Move.tup] using h
instance : DecidableEq Move := fun m n => if h : m.tup = n.tup then isTrue (Move.tup_inj h) else isFalse (fun e => h (by rw [e]))
def Move.cells (m : Move) : List Value := [.int .i64 m.to, .int .i64 m.src]
def Move.zero : Move := ⟨0, 0⟩
def rpMove : Rp Move := (rpInt.pair rpInt).as_ Move.tup
theorem rpMove_rep {w : World} {B : Nat} {m : Move} {cs : List Value} : rpMove.rep w B m cs ↔ cs = m.cells := by
 simp [rpMove, Rp.as_, Rp.pair, rpInt, Move.tup, Move.cells]
theorem q1h {w : World} {B base : Nat} {e : TypeId} {v : Value} {xs : List Move} (h : w.ownsRow base e 2 v xs.length (xs.flatMap Move.cells)) (hB : w.heap.size ≤ B) : rpMove.SL w B xs v :=
 Rp.SL.of_own (r := rpMove) (fun _ _ _ => rpMove_rep.2 rfl) (fun _ => rfl) h hB
theorem q4r : (Tryz.prog.info? 81).map (fun i => (i.zero, i.size, i.bytes)) = some (some (.agg #[.int .i64 0, .int .i64 0]), 2, 16) := by kernel_rfl
theorem Rp.SL.move_at {w : World} {B : Nat} {xs : List Move} {A : Option Addr} {n c k : Nat} (h : rpMove.SL w B xs (.slice A n c)) (hk : k < xs.length) : ∃ b off m, A = some ⟨b, off, none⟩ ∧ b < B ∧ xs[k]? = some m ∧
 w.cell? ⟨b, off + k * 2, none⟩ = some (.int .i64 m.to) ∧ w.cell? ⟨b, off + k * 2 + 1, none⟩ = some (.int .i64 m.src) := by
 obtain ⟨b, off, cs, hA, hb, hr, hcs⟩ := h.at_ (List.getElem?_eq_getElem hk);rw [rpMove_rep] at hr;subst hr;exact ⟨b, off, xs[k], hA, hb, List.getElem?_eq_getElem hk, hcs 0 _ rfl, hcs 1 _ rfl⟩
def idx {α : Type} (p : α -> Bool) (xs : List α) : Int := match xs.findIdx? p with
 | some i => (i : Int)
 | none => -1
theorem qf8 {α : Type} {p : α -> Bool} {xs : List α} {k : Nat} (h : ∀ j x, j < k -> xs[j]? = some x -> p x = false) (hk : k ≤ xs.length) : idx p xs = (match (xs.drop k).findIdx? p with | some i => ((i + k : Nat) : Int) | none => -1) := by
 induction k generalizing xs with
 | zero => simp [idx]
 | succ k ih =>
   cases xs with
   | nil => simp at hk
   | cons y ys =>
     have h0 : p y = false := h 0 y (by omega) rfl;have := ih (xs := ys) (fun j x hj hx => h (j + 1) x (by omega) (by simpa using hx)) (by simpa using hk);rw [List.drop_succ_cons, idx, List.findIdx?_cons, h0];rw [idx] at this;simp only [Bool.false_eq_true, if_false]
     cases h1 : ys.findIdx? p with
     | none =>
       rw [h1] at this
       cases h2 : (ys.drop k).findIdx? p with
       | none => rfl
       | some i => rw [h2] at this; simp at this <;> omega
     | some i =>
       rw [h1] at this
       cases h2 : (ys.drop k).findIdx? p with
       | none => rw [h2] at this; simp at this <;> omega
       | some i => rw [h2] at this; simp at this ⊢; omega
theorem qam {α : Type} {p : α -> Bool} {xs : List α} (h : ∀ j x, j < xs.length -> xs[j]? = some x -> p x = false) : idx p xs = -1 := by
 rw [qf8 h (Nat.le_refl _)];simp
theorem qan {α : Type} {p : α -> Bool} {xs : List α} {k : Nat} {x : α} (h : ∀ j x, j < k -> xs[j]? = some x -> p x = false) (hx : xs[k]? = some x) (hp : p x = true) : idx p xs = k := by
 have hk : k < xs.length := (List.getElem?_eq_some_iff.1 hx).1;rw [qf8 h (by omega), List.drop_eq_getElem_cons hk, List.findIdx?_cons];have : p xs[k] = true := by rw [List.getElem?_eq_getElem hk] at hx; injection hx with hx; rw [hx]; exact hp
 simp [this]
theorem qfp {α : Type} {p : α -> Bool} {xs : List α} {k : Nat} {m : α} (h : ∀ j x, j < k -> xs[j]? = some x -> p x = false) (e : xs[k]? = some m) (hp : p m = false) : ∀ j x, j < k + 1 -> xs[j]? = some x -> p x = false := by
 intro j x hj hx
 rcases Nat.lt_or_ge j k with hlt | hge
 ·exact h j x hlt hx
 ·obtain rfl : j = k := by omega
  rw [e] at hx;injection hx with hx
  rw [<- hx];exact hp
def Asks (f : FuncId) (caps : List Value) (p : Move -> Bool) (w : World) : Prop :=
 Enters Tryz.prog f ∧ ∀ (x : Move) (W : World) (R : Ending -> World -> Prop), Below w.heap.size w W -> (∀ W', Below W.heap.size W W' -> R (.returned (.bool (p x))) W') -> Calls Tryz.prog f (.agg #[.int .i64 x.to, .int .i64 x.src] :: caps).toArray W R
theorem q4m (f : FuncId) (c : Value) (p : Move -> Bool) (v : Value) (xs : List Move) (w : World) (h : rpMove.SL w w.heap.size xs v) (hf : Asks f [c] p w) (R : Ending -> World -> Prop)
 (hR : ∀ w', Below w.heap.size w w' -> R (.returned (.int .i64 (idx p xs))) w') :
 Calls Tryz.prog 113 #[v, .func (.func f) #[] #[c]] w R := by
 obtain ⟨hen, hf⟩ := hf;have hcf := hen.run;obtain ⟨A, n, rfl, hm, _, h⟩ := h.cases_
 go_enter Tryz.func113, Tryz.ntmps113
 go_wp2
 go_loopw [8] (fun i wr => ∃ k : Nat, k ≤ xs.length ∧ i = .int .i64 k ∧ (∀ j x, j < k -> xs[j]? = some x -> p x = false) ∧ Below w.heap.size w wr) (fun i _ => xs.length - (intOf i).toNat)
 case atStart => exact ⟨0, Nat.zero_le _, rfl, fun j x hj => absurd hj (by omega), Below.refl _ _⟩
 case round =>
  obtain ⟨k, hk, rfl, ht, hbel⟩ := hrel;have Ht := lh ht;clear ht
  by_cases hlt : k < xs.length
  ·obtain ⟨b, off, m, rfl, hb, e, p0, p1⟩ := h.move_at hlt;have E := lh e;rw [<- hbel.cell (p := ⟨_, _, none⟩) hb] at p0 p1;clear e h;have Hf := lh (hf m);clear hf
   go_wp2_with fail
   refine Hf.out _ _ hbel ?_;intro w1 hb1;have hbel1 := hbel.trans (hb1.mono hbel.size)
   by_cases hp : p m = true
   ·rw [hp];go_wp2;rw [qan Ht.out E.out hp] at hR;exact hR _ hbel1
   ·have hp' : p m = false := by simpa using hp
    rw [hp'];go_wp2
    go_roundw
    case rel => exact ⟨k + 1, by omega, by go_num, qfp Ht.out E.out hp', hbel1⟩
    case measure => simp [intOf]; omega
  ·obtain rfl : k = xs.length := by omega
   go_wp2;rw [qam Ht.out] at hR;exact hR _ hbel
theorem qnv {α : Type} (p : α -> Bool) (xs : List α) : decide (0 ≤ idx p xs) = xs.any p := by
 unfold idx
 cases h : xs.findIdx? p with
 | none =>
   rw [List.findIdx?_eq_none_iff] at h;rw [show xs.any p = false from by rw [List.any_eq_false]; intro x hx; simp [h x hx]];rfl
 | some i =>
   obtain ⟨hi, hp, _⟩ := List.findIdx?_eq_some_iff_getElem.1 h;rw [show xs.any p = true from List.any_eq_true.2 ⟨xs[i], List.getElem_mem _, hp⟩];simp
theorem q5z (f : FuncId) (c : Value) (p : Move -> Bool) (v : Value) (xs : List Move) (w : World) (h : rpMove.SL w w.heap.size xs v) (hf : Asks f [c] p w) (R : Ending -> World -> Prop)
 (hR : ∀ w', Below w.heap.size w w' -> R (.returned (.bool (xs.any p))) w') :
 Calls Tryz.prog 111 #[v, .func (.func f) #[] #[c]] w R := by
 have hge := qnv p xs;have Hf := lh hf;clear hf
 go_enter Tryz.func111, Tryz.ntmps111
 go_wp2_with fail
 refine q4m _ _ p _ _ _ h Hf.out _ ?_;intro w1 hb1;generalize idx p xs = z at *;go_wp2
 first | exact bl0 | exact hR _ bl0
structure UVal where
 reg : Bool
 n : Int
structure UIns where
 op : Int
 dst : Int
 a : UVal
 b : UVal
 fn : Int
 args : List UVal
structure UPhi where
 dst : Int
 from_ : List UVal
structure UEnd where
 kind : Int
 on : UVal
 to : List Int
structure UBlk where
 phis : List UPhi
 list : List UIns
 end_ : UEnd
structure UFun where
 name : ByteArray
 params : Int
 regs : Int
 blocks : List UBlk
structure Unt where
 globals : List Global
 funcs : List UFun
def rpVal : Rp UVal := (rpBool.pair rpInt).as_ fun v => (v.reg, v.n)
def rpIns : Rp UIns := (rpInt.pair (rpInt.pair (rpVal.pair (rpVal.pair (rpInt.pair rpVal.slice))))).as_ fun x => (x.op, x.dst, x.a, x.b, x.fn, x.args)
def rpPhi : Rp UPhi := (rpInt.pair rpVal.slice).as_ fun p => (p.dst, p.from_)
def rpEnd : Rp UEnd := (rpInt.pair (rpVal.pair rpInt.slice)).as_ fun e => (e.kind, e.on, e.to)
def rpBlk : Rp UBlk := (rpPhi.slice.pair (rpIns.slice.pair rpEnd)).as_ fun b => (b.phis, b.list, b.end_)
def rpFun : Rp UFun := (rpStr.pair (rpInt.pair (rpInt.pair rpBlk.slice))).as_ fun f => (f.name, f.params, f.regs, f.blocks)
def rpUnt : Rp Unt := (rpGlobal.slice.pair rpFun.slice).as_ fun u => (u.globals, u.funcs)
def fst0 : List Int -> Int
 | [] => 0
 | x :: l => if x = 0 then fst0 l else x
theorem q5p (l m : List Int) : fst0 (l ++ m) = if fst0 l = 0 then fst0 m else fst0 l := by
 induction l with
 | nil => simp [fst0]
 | cons x l ih => by_cases h : x = 0 <;> simp [fst0, h, ih]
theorem fst0_zero {l : List Int} : fst0 l = 0 ↔ ∀ x ∈ l, x = 0 := by
 induction l with
 | nil => simp [fst0]
 | cons x l ih =>
   simp only [fst0, List.mem_cons]
   by_cases h : x = 0
   ·rw [if_pos h, ih]
    constructor
    ·rintro hl y (rfl | hy)
     ·exact h
     ·exact hl y hy
    ·intro hl y hy;exact hl y (.inr hy)
   ·rw [if_neg h]
    constructor
    ·intro e;exact absurd e h
    ·intro hl;exact hl x (.inl rfl)
theorem q5q {l : List Int} {k : Nat} {x : Int} (hk : l[k]? = some x) (hx : x ≠ 0) (h0 : fst0 (l.take k) = 0) : fst0 l = x := by
 obtain ⟨hlt, e⟩ := List.getElem?_eq_some_iff.1 hk
 have : l = l.take k ++ (x :: l.drop (k + 1)) := by
  rw [<- e, List.getElem_cons_drop, List.take_append_drop]
 rw [this, q5p, if_pos h0];simp [fst0, hx]
theorem q3e {l : List Int} {k : Nat} {x : Int} (hk : l[k]? = some x) (hx : x = 0) (h0 : fst0 (l.take k) = 0) : fst0 (l.take (k + 1)) = 0 := by
 obtain ⟨hlt, e⟩ := List.getElem?_eq_some_iff.1 hk;rw [List.take_succ_eq_append_getElem hlt, q5p, if_pos h0, e, hx];rfl
def opDst (op : Int) : Bool := decide ((1 ≤ op ∧ op ≤ 18) ∨ op = 20 ∨ op = 21)
def opA (op : Int) : Bool := decide ((1 ≤ op ∧ op ≤ 19) ∨ op = 22)
def opB (op : Int) : Bool := decide ((2 ≤ op ∧ op ≤ 15) ∨ op = 19)
def valF (regs : Int) (v : UVal) : Int := if v.reg = true ∧ ¬ (0 ≤ v.n ∧ v.n ≤ regs - 1) then 3 else 0
def dstF (regs n : Int) : Int := if 0 ≤ n ∧ n ≤ regs - 1 then 0 else 3
def valsF (regs : Int) (l : List UVal) : Int := fst0 (l.map (valF regs))
def isZ (v : UVal) : Bool := !v.reg && decide (v.n = 0)
def endF (nb regs : Int) (e : UEnd) : Int :=
 if ¬ (1 ≤ e.kind ∧ e.kind ≤ 3) then 4
 else if (e.to.length : Int) ≠ e.kind - 1 then 9
 else if e.to.any (fun t => !decide (1 ≤ t ∧ t ≤ nb - 1)) = true then 3
 else if (e.kind = 3 ∧ e.to[0]? = e.to[1]?) ∨ (e.kind = 2 ∧ isZ e.on = false) then 5
 else valF regs e.on
def qq (l : List UBlk) : Nat -> List (Int × Int)
 | 0 => []
 | k + 1 => qq l k ++ (match l[k]? with
   | none => []
   | some b => b.end_.to.map fun t => ((k : Int), t))
def qen (l : List UBlk) (t : Int) : List Int := ((qq l l.length).filter fun e => decide (e.2 = t)).map (·.1)
def phiF (f : UFun) (k : Nat) (p : UPhi) : Int :=
 if k = 0 then 5 else if dstF f.regs p.dst ≠ 0 then dstF f.regs p.dst
 else if p.from_.length ≠ (qen f.blocks k).length then 9 else valsF f.regs p.from_
def callF (u : Unt) (regs : Int) (x : UIns) : Int :=
 if x.op ≠ 20 then 0 else
 if ¬ (0 ≤ x.fn ∧ x.fn ≤ (u.funcs.length : Int) - 1) then 3 else
 match u.funcs[x.fn.toNat]? with
 | none => 3
 | some g => if (x.args.length : Int) ≠ g.params then 9 else valsF regs x.args
def insF (u : Unt) (regs : Int) (x : UIns) : Int :=
 if ¬ (1 ≤ x.op ∧ x.op ≤ 22) then 4
 else if (opDst x.op = false ∧ x.dst ≠ -1) ∨ (opA x.op = false ∧ isZ x.a = false) ∨ (opB x.op = false ∧ isZ x.b = false) ∨ (x.op ≠ 20 ∧ (x.fn ≠ 0 ∨ 0 < x.args.length)) then 5
 else if opDst x.op = true ∧ ¬ (x.op = 20 ∧ x.dst = -1) ∧ dstF regs x.dst ≠ 0 then dstF regs x.dst
 else fst0 [valF regs x.a, valF regs x.b, callF u regs x]
def blkF (u : Unt) (f : UFun) (k : Nat) (b : UBlk) : Int := fst0 (b.phis.map (phiF f k) ++ b.list.map (insF u f.regs))
def bodyF (u : Unt) (f : UFun) : Int :=
 if fst0 (f.blocks.map fun b => endF f.blocks.length f.regs b.end_) ≠ 0 then fst0 (f.blocks.map fun b => endF f.blocks.length f.regs b.end_)
 else fst0 (f.blocks.mapIdx fun k b => blkF u f k b)
def manyW (l : List UBlk) : Nat -> Int
 | 0 => 0
 | k + 1 => match l[k]? with
   | none => manyW l k
   | some b => wrap64 (manyW l k + wrap64 ((b.phis.length : Int) + (b.list.length : Int)))
def headF (nameIn : ByteArray -> Bool) (f : UFun) : Int :=
 if q1b f.name = false then 12
 else if nameIn f.name = true then 7
 else if ¬ (0 ≤ f.params ∧ f.params ≤ 6) ∨ ¬ (f.params ≤ f.regs ∧ f.regs ≤ 100) then 3
 else if ¬ (1 ≤ (f.blocks.length : Int) ∧ (f.blocks.length : Int) ≤ 40) ∨ 300 < manyW f.blocks f.blocks.length then 2
 else 0
def fstAt : List Int -> Nat -> Int × Int
 | [], _ => (0, 0)
 | x :: l, k => if x = 0 then fstAt l (k + 1) else (x, (k : Int))
theorem qby (l m : List Int) (k : Nat) : fstAt (l ++ m) k = if fst0 l = 0 then fstAt m (k + l.length) else fstAt l k := by
 induction l generalizing k with
 | nil => simp [fst0]
 | cons x l ih =>
   have e : k + 1 + l.length = k + (l.length + 1) := by omega
   by_cases h : x = 0 <;> simp [fst0, fstAt, h, ih, e]
theorem qf7 {l : List Int} {k : Nat} {x : Int} (hk : l[k]? = some x) (hx : x ≠ 0) (h0 : fst0 (l.take k) = 0) : fstAt l 0 = (x, (k : Int)) := by
 obtain ⟨hlt, e⟩ := List.getElem?_eq_some_iff.1 hk
 have h : l = l.take k ++ (x :: l.drop (k + 1)) := by
  rw [<- e, List.getElem_cons_drop, List.take_append_drop]
 rw [h, qby, if_pos h0];simp only [fstAt, if_neg hx, List.length_take];rw [show 0 + min k l.length = k from by omega]
theorem q9t {l : List Int} (k : Nat) : (fstAt l k).1 = fst0 l := by
 induction l generalizing k with
 | nil => rfl
 | cons x l ih =>
   unfold fst0 fstAt
   by_cases hx : x = 0
   ·rw [if_pos hx, if_pos hx];exact ih _
   ·rw [if_neg hx, if_neg hx]
def mainU : ByteArray := ⟨#[109, 97, 105, 110]⟩
def nameG (u : Unt) (i : Nat) (nm : ByteArray) : Bool := (u.globals.map (·.name) ++ (u.funcs.take i).map (·.name)).any fun o => decide (o = nm)
def q2f (u : Unt) : List Int := u.funcs.mapIdx fun i f => headF (nameG u i) f
def q1q (u : Unt) : List Int := u.funcs.map (bodyF u)
def qo (u : Unt) : Int × Int :=
 if 10 < u.globals.length ∨ 10 < u.funcs.length then (2, 0)
 else if q0n u.globals u.globals.length 0 0 ≠ (0, 0) then q0n u.globals u.globals.length 0 0
 else if fst0 (q2f u) ≠ 0 then fstAt (q2f u) 0
 else if fst0 (q1q u) ≠ 0 then fstAt (q1q u) 0
 else match u.funcs.findIdx? fun f => decide (f.name = mainU) with
  | none => (6, 0)
  | some i => match u.funcs[i]? with
    | none => (6, 0)
    | some f => if 0 < f.params then (5, (i : Int)) else (0, 0)
theorem q4p {u : Unt} (h : qo u = (0, 0)) : u.globals.length ≤ 10 ∧ u.funcs.length ≤ 10 ∧ fst0 (q2f u) = 0 ∧ fst0 (q1q u) = 0 := by
 unfold qo at h
 split at h
 ·simp at h
 rename_i h1
 split at h
 ·rename_i h2;exact absurd h h2
 split at h
 ·rename_i h3;have := q9t (l := q2f u) 0;rw [h] at this;exact absurd this.symm h3
 rename_i h3
 split at h
 ·rename_i h4;have := q9t (l := q1q u) 0;rw [h] at this;exact absurd this.symm h4
 rename_i h4;exact ⟨by omega, by omega, by simpa using h3, by simpa using h4⟩
def ValOk (regs : Int) (v : UVal) : Prop := v.reg = true -> 0 ≤ v.n ∧ v.n < regs
theorem q94 {regs : Int} {v : UVal} : valF regs v = 0 ↔ ValOk regs v := by
 unfold valF ValOk
 split
 ·rename_i h;simp only [Int.reduceEq, false_iff];intro h2;exact h.2 (by have := h2 h.1; omega)
 ·rename_i h;simp only [true_iff];intro hr;have : ¬ ¬ (0 ≤ v.n ∧ v.n ≤ regs - 1) := fun hn => h ⟨hr, hn⟩;omega
theorem valsF_zero {regs : Int} {l : List UVal} : valsF regs l = 0 ↔ ∀ v ∈ l, ValOk regs v := by
 unfold valsF;rw [fst0_zero];simp only [List.mem_map, forall_exists_index, and_imp, forall_apply_eq_imp_iff₂, q94]
structure InsOk (u : Unt) (regs : Int) (x : UIns) : Prop where
 op : 1 ≤ x.op ∧ x.op ≤ 22
 a : ValOk regs x.a
 b : ValOk regs x.b
 noA : opA x.op = false -> isZ x.a = true
 noB : opB x.op = false -> isZ x.b = true
 args : ∀ v ∈ x.args, ValOk regs v
 noArgs : x.op ≠ 20 -> x.args = [] ∧ x.fn = 0
 dst : x.dst = -1 ∨ (0 ≤ x.dst ∧ x.dst < regs)
 noDst : opDst x.op = false -> x.dst = -1
 opDst : opDst x.op = true -> x.op ≠ 20 -> 0 ≤ x.dst
 call : x.op = 20 -> ∃ g, u.funcs[x.fn.toNat]? = some g ∧ 0 ≤ x.fn ∧ (x.args.length : Int) = g.params
theorem qit {u : Unt} {regs : Int} {x : UIns} (h : insF u regs x = 0) : InsOk u regs x := by
 unfold insF at h
 split at h
 ·simp at h
 rename_i h1
 split at h
 ·simp at h
 rename_i h2
 split at h
 ·rename_i h3;exact absurd h h3.2.2
 rename_i h3;rw [fst0_zero] at h;have ha := h (valF regs x.a) (by simp);have hb := h (valF regs x.b) (by simp);have hc := h (callF u regs x) (by simp);rw [q94] at ha hb
 have hd : 0 ≤ x.dst ∧ x.dst < regs ∨ ¬ (opDst x.op = true ∧ ¬ (x.op = 20 ∧ x.dst = -1)) := by
  by_cases hx : opDst x.op = true ∧ ¬ (x.op = 20 ∧ x.dst = -1)
  ·left
   have : ¬ dstF regs x.dst ≠ 0 := fun hn => h3 ⟨hx.1, hx.2, hn⟩;unfold dstF at this
   split at this
   ·omega
   ·simp at this
  ·exact .inr hx
 have e20 : opDst 20 = true := by decide
 have hcall : x.op ≠ 20 -> x.args = [] ∧ x.fn = 0 := fun hne => by
  constructor
  ·apply List.eq_nil_of_length_eq_zero;apply Classical.byContradiction;intro hn;exact h2 (.inr (.inr (.inr ⟨hne, .inr (by omega)⟩)))
  ·apply Classical.byContradiction;intro hn;exact h2 (.inr (.inr (.inr ⟨hne, .inl hn⟩)))
 have hargs : ∀ v ∈ x.args, ValOk regs v := by
  by_cases hne : x.op = 20
  ·unfold callF at hc;rw [if_neg (by omega)] at hc
   split at hc
   ·simp at hc
   split at hc
   ·simp at hc
   split at hc
   ·simp at hc
   exact valsF_zero.1 hc
  ·rw [(hcall hne).1];intro v hv;simp at hv
 refine ⟨by omega, ha, hb, fun hn => ?_, fun hn => ?_, hargs, hcall, ?_, fun hn => ?_, fun hn hne => ?_, fun hne => ?_⟩
 ·apply Classical.byContradiction;intro hz;exact h2 (.inr (.inl ⟨hn, by simpa using hz⟩))
 ·apply Classical.byContradiction;intro hz;exact h2 (.inr (.inr (.inl ⟨hn, by simpa using hz⟩)))
 ·rcases hd with hd | hd
  ·exact .inr hd
  ·by_cases hn : opDst x.op = true
   ·left
    apply Classical.byContradiction;intro hm;exact hd ⟨hn, fun hh => hm hh.2⟩
   ·left
    apply Classical.byContradiction;intro hm;exact h2 (.inl ⟨by simpa using hn, hm⟩)
 ·apply Classical.byContradiction;intro hm;exact h2 (.inl ⟨hn, hm⟩)
 ·rcases hd with hd | hd
  ·exact hd.1
  ·exact absurd ⟨hn, fun hh => hne hh.1⟩ hd
 ·unfold callF at hc;rw [if_neg (by omega)] at hc
  split at hc
  ·simp at hc
  split at hc
  ·simp at hc
  rename_i g hg
  split at hc
  ·simp at hc
  rename_i hl;exact ⟨g, hg, by omega, by omega⟩
structure PhiOk (f : UFun) (k : Nat) (p : UPhi) : Prop where
 dst : 0 ≤ p.dst ∧ p.dst < f.regs
 from_ : ∀ v ∈ p.from_, ValOk f.regs v
 len : p.from_.length = (qen f.blocks k).length
structure FunOk (u : Unt) (f : UFun) : Prop where
 params : 0 ≤ f.params ∧ f.params ≤ 6
 regs : f.params ≤ f.regs ∧ f.regs ≤ 100
 blocks : 1 ≤ f.blocks.length ∧ f.blocks.length ≤ 40
 to : ∀ b ∈ f.blocks, ∀ t ∈ b.end_.to, 1 ≤ t ∧ t < f.blocks.length
 on : ∀ b ∈ f.blocks, ValOk f.regs b.end_.on
 ins : ∀ b ∈ f.blocks, ∀ x ∈ b.list, InsOk u f.regs x
 phis : ∀ k b, f.blocks[k]? = some b -> ∀ p ∈ b.phis, PhiOk f k p
theorem q68 {nb regs : Int} {e : UEnd} (h : endF nb regs e = 0) : (∀ t ∈ e.to, 1 ≤ t ∧ t < nb) ∧ ValOk regs e.on := by
 unfold endF at h
 split at h
 ·simp at h
 split at h
 ·simp at h
 split at h
 ·simp at h
 rename_i h3
 split at h
 ·simp at h
 rw [q94] at h;refine ⟨fun t ht => ?_, h⟩;apply Classical.byContradiction;intro hn;exact h3 (List.any_eq_true.2 ⟨t, ht, by simp; omega⟩)
theorem qjj {f : UFun} {k : Nat} {p : UPhi} (h : phiF f k p = 0) : PhiOk f k p := by
 unfold phiF at h
 split at h
 ·simp at h
 split at h
 ·rename_i h2;exact absurd h h2
 rename_i h2
 split at h
 ·simp at h
 rename_i h3;refine ⟨?_, valsF_zero.1 h, by omega⟩;unfold dstF at h2
 split at h2
 ·omega
 ·simp at h2
theorem funOk {u : Unt} (h : qo u = (0, 0)) {k : Nat} {f : UFun} (hf : u.funcs[k]? = some f) : FunOk u f := by
 obtain ⟨_, _, hh, hb⟩ := q4p h;rw [fst0_zero] at hh hb;have hm : f ∈ u.funcs := List.mem_of_getElem? hf;have h1 := hb (bodyF u f) (List.mem_map.2 ⟨f, hm, rfl⟩)
 have h2 := hh (headF (nameG u k) f) (by
  unfold q2f;apply List.mem_of_getElem? (i := k);rw [List.getElem?_mapIdx, hf];rfl)
 unfold headF at h2
 split at h2
 ·simp at h2
 split at h2
 ·simp at h2
 split at h2
 ·simp at h2
 rename_i h5
 split at h2
 ·simp at h2
 rename_i h6;unfold bodyF at h1
 split at h1
 ·rename_i h7;exact absurd h1 h7
 rename_i h7;have h7' : fst0 (f.blocks.map fun b => endF f.blocks.length f.regs b.end_) = 0 := by simpa using h7
 rw [fst0_zero] at h7' h1;have hE : ∀ b ∈ f.blocks, endF f.blocks.length f.regs b.end_ = 0 := fun b hb => h7' _ (List.mem_map.2 ⟨b, hb, rfl⟩)
 have hB : ∀ (k : Nat) b, f.blocks[k]? = some b -> blkF u f k b = 0 := fun k b hb => h1 _ (by
  apply List.mem_of_getElem? (i := k);rw [List.getElem?_mapIdx, hb];rfl)
 refine ⟨by omega, by omega, by omega, fun b hb t ht => ?_, fun b hb => (q68 (hE b hb)).2, fun b hb x hx => ?_, fun k b hb p hp => ?_⟩
 ·have := (q68 (hE b hb)).1 t ht;omega
 ·obtain ⟨j, hj⟩ := List.mem_iff_getElem?.1 hb;have := hB j b hj;unfold blkF at this;rw [fst0_zero] at this;exact qit (this _ (List.mem_append_right _ (List.mem_map.2 ⟨x, hx, rfl⟩)))
 ·have := hB k b hb;unfold blkF at this;rw [fst0_zero] at this;exact qjj (this _ (List.mem_append_left _ (List.mem_map.2 ⟨p, hp, rfl⟩)))
theorem qb {w : World} {b j : Nat} {A : Array Value} {T : TypeId} {fr : Nat × Nat} (h : w.heap[b]? = some (.cells A T fr)) : w.cell? ⟨b, j, none⟩ = A[j]? := by simp [World.cell?, h]
theorem cqq {w : World} {b k : Nat} {cs : Array Value} {T : TypeId} {fr : Nat × Nat} {v : Value} (h : w.heap[b]? = some (.cells cs T fr)) (e : cs[k]? = some v := by rfl) : w.cell? ⟨b, k, none⟩ = some v := by rw [qb h]; exact e
theorem q6o {w : World} {B : Nat} {v : UVal} {cs : List Value} (h : rpVal.rep w B v cs) : cs = [.bool v.reg, .int .i64 v.n] := by
 obtain ⟨c1, c2, rfl, rfl, rfl⟩ := h;rfl
theorem qjw {w : World} {B : Nat} {x : UIns} {cs : List Value} (h : rpIns.rep w B x cs) : ∃ v, cs = [.int .i64 x.op, .int .i64 x.dst, .bool x.a.reg, .int .i64 x.a.n, .bool x.b.reg, .int .i64 x.b.n, .int .i64 x.fn, v] ∧ rpVal.SL w B x.args v := by
 obtain ⟨c1, c2, rfl, rfl, c3, c4, rfl, rfl, c5, c6, rfl, h5, c7, c8, rfl, h7, c9, c10, rfl, rfl, v, rfl, h⟩ := h;obtain rfl := q6o h5;obtain rfl := q6o h7;exact ⟨v, rfl, h⟩
theorem qjx {w : World} {B : Nat} {p : UPhi} {cs : List Value} (h : rpPhi.rep w B p cs) : ∃ v, cs = [.int .i64 p.dst, v] ∧ rpVal.SL w B p.from_ v := by
 obtain ⟨c1, c2, rfl, rfl, v, rfl, h⟩ := h;exact ⟨v, rfl, h⟩
theorem qju {w : World} {B : Nat} {b : UBlk} {cs : List Value} (h : rpBlk.rep w B b cs) : ∃ vp vl vt, cs = [vp, vl, .int .i64 b.end_.kind, .bool b.end_.on.reg, .int .i64 b.end_.on.n, vt] ∧ rpPhi.SL w B b.phis vp ∧ rpIns.SL w B b.list vl ∧ rpInt.SL w B b.end_.to vt := by
 obtain ⟨c1, c2, rfl, ⟨vp, rfl, h1⟩, c3, c4, rfl, ⟨vl, rfl, h2⟩, c5, c6, rfl, rfl, c7, c8, rfl, h7, vt, rfl, h3⟩ := h;obtain rfl := q6o h7;exact ⟨vp, vl, vt, rfl, h1, h2, h3⟩
theorem qjv {w : World} {B : Nat} {f : UFun} {cs : List Value} (h : rpFun.rep w B f cs) : ∃ v, cs = [.string f.name, .int .i64 f.params, .int .i64 f.regs, v] ∧ rpBlk.SL w B f.blocks v := by
 obtain ⟨c1, c2, rfl, rfl, c3, c4, rfl, rfl, c5, c6, rfl, rfl, v, rfl, h⟩ := h;exact ⟨v, rfl, h⟩
theorem qjz {w : World} {B : Nat} {u : Unt} {cs : List Value} (h : rpUnt.rep w B u cs) : ∃ v1 v2, cs = [v1, v2] ∧ rpGlobal.SL w B u.globals v1 ∧ rpFun.SL w B u.funcs v2 := by
 obtain ⟨c1, c2, rfl, ⟨v1, rfl, h1⟩, v2, rfl, h2⟩ := h;exact ⟨v1, v2, rfl, h1, h2⟩
theorem Rp.SL.val_at {w : World} {B : Nat} {xs : List UVal} {A : Option Addr} {n c k : Nat} (h : rpVal.SL w B xs (.slice A n c)) (hk : k < xs.length) : ∃ b off, A = some ⟨b, off, none⟩ ∧ b < B ∧
 w.cell? ⟨b, off + k * 2, none⟩ = some (.bool xs[k].reg) ∧ w.cell? ⟨b, off + k * 2 + 1, none⟩ = some (.int .i64 xs[k].n) := by
 obtain ⟨b, off, cs, hA, hb, hr, hcs⟩ := h.at_ (List.getElem?_eq_getElem hk);obtain rfl := q6o hr;exact ⟨b, off, hA, hb, hcs 0 _ rfl, hcs 1 _ rfl⟩
theorem Rp.SL.ins_at {w : World} {B : Nat} {xs : List UIns} {A : Option Addr} {n c k : Nat} (h : rpIns.SL w B xs (.slice A n c)) (hk : k < xs.length) : ∃ b off v, A = some ⟨b, off, none⟩ ∧ b < B ∧ rpVal.SL w B xs[k].args v ∧
 w.cell? ⟨b, off + k * 8, none⟩ = some (.int .i64 xs[k].op) ∧ w.cell? ⟨b, off + k * 8 + 1, none⟩ = some (.int .i64 xs[k].dst) ∧ w.cell? ⟨b, off + k * 8 + 2, none⟩ = some (.bool xs[k].a.reg) ∧ w.cell? ⟨b, off + k * 8 + 3, none⟩ = some (.int .i64 xs[k].a.n) ∧
 w.cell? ⟨b, off + k * 8 + 4, none⟩ = some (.bool xs[k].b.reg) ∧ w.cell? ⟨b, off + k * 8 + 5, none⟩ = some (.int .i64 xs[k].b.n) ∧ w.cell? ⟨b, off + k * 8 + 6, none⟩ = some (.int .i64 xs[k].fn) ∧ w.cell? ⟨b, off + k * 8 + 7, none⟩ = some v := by
 obtain ⟨b, off, cs, hA, hb, hr, hcs⟩ := h.at_ (List.getElem?_eq_getElem hk);obtain ⟨v, rfl, hv⟩ := qjw hr;exact ⟨b, off, v, hA, hb, hv, hcs 0 _ rfl, hcs 1 _ rfl, hcs 2 _ rfl, hcs 3 _ rfl, hcs 4 _ rfl, hcs 5 _ rfl, hcs 6 _ rfl, hcs 7 _ rfl⟩
theorem Rp.SL.phi_at {w : World} {B : Nat} {xs : List UPhi} {A : Option Addr} {n c k : Nat} (h : rpPhi.SL w B xs (.slice A n c)) (hk : k < xs.length) : ∃ b off v, A = some ⟨b, off, none⟩ ∧ b < B ∧ rpVal.SL w B xs[k].from_ v ∧
 w.cell? ⟨b, off + k * 2, none⟩ = some (.int .i64 xs[k].dst) ∧ w.cell? ⟨b, off + k * 2 + 1, none⟩ = some v := by
 obtain ⟨b, off, cs, hA, hb, hr, hcs⟩ := h.at_ (List.getElem?_eq_getElem hk);obtain ⟨v, rfl, hv⟩ := qjx hr;exact ⟨b, off, v, hA, hb, hv, hcs 0 _ rfl, hcs 1 _ rfl⟩
theorem Rp.SL.blk_at {w : World} {B : Nat} {xs : List UBlk} {A : Option Addr} {n c k : Nat} (h : rpBlk.SL w B xs (.slice A n c)) (hk : k < xs.length) : ∃ b off vp vl vt, A = some ⟨b, off, none⟩ ∧ b < B ∧ rpPhi.SL w B xs[k].phis vp ∧ rpIns.SL w B xs[k].list vl ∧ rpInt.SL w B xs[k].end_.to vt ∧
 w.cell? ⟨b, off + k * 6, none⟩ = some vp ∧ w.cell? ⟨b, off + k * 6 + 1, none⟩ = some vl ∧ w.cell? ⟨b, off + k * 6 + 2, none⟩ = some (.int .i64 xs[k].end_.kind) ∧ w.cell? ⟨b, off + k * 6 + 3, none⟩ = some (.bool xs[k].end_.on.reg) ∧
 w.cell? ⟨b, off + k * 6 + 4, none⟩ = some (.int .i64 xs[k].end_.on.n) ∧ w.cell? ⟨b, off + k * 6 + 5, none⟩ = some vt := by
 obtain ⟨b, off, cs, hA, hb, hr, hcs⟩ := h.at_ (List.getElem?_eq_getElem hk);obtain ⟨vp, vl, vt, rfl, h1, h2, h3⟩ := qju hr;exact ⟨b, off, vp, vl, vt, hA, hb, h1, h2, h3, hcs 0 _ rfl, hcs 1 _ rfl, hcs 2 _ rfl, hcs 3 _ rfl, hcs 4 _ rfl, hcs 5 _ rfl⟩
theorem Rp.SL.fun_at {w : World} {B : Nat} {xs : List UFun} {A : Option Addr} {n c k : Nat} (h : rpFun.SL w B xs (.slice A n c)) (hk : k < xs.length) : ∃ b off v, A = some ⟨b, off, none⟩ ∧ b < B ∧ rpBlk.SL w B xs[k].blocks v ∧
 w.cell? ⟨b, off + k * 4, none⟩ = some (.string xs[k].name) ∧ w.cell? ⟨b, off + k * 4 + 1, none⟩ = some (.int .i64 xs[k].params) ∧ w.cell? ⟨b, off + k * 4 + 2, none⟩ = some (.int .i64 xs[k].regs) ∧ w.cell? ⟨b, off + k * 4 + 3, none⟩ = some v := by
 obtain ⟨b, off, cs, hA, hb, hr, hcs⟩ := h.at_ (List.getElem?_eq_getElem hk);obtain ⟨v, rfl, hv⟩ := qjv hr;exact ⟨b, off, v, hA, hb, hv, hcs 0 _ rfl, hcs 1 _ rfl, hcs 2 _ rfl, hcs 3 _ rfl⟩
def ValI (v : UVal) : Prop := I64 v.n
structure InsI (x : UIns) : Prop where
 op : I64 x.op
 dst : I64 x.dst
 a : ValI x.a
 b : ValI x.b
 fn : I64 x.fn
 args : ∀ v ∈ x.args, ValI v
structure BlkI (b : UBlk) : Prop where
 phis : ∀ p ∈ b.phis, I64 p.dst ∧ ∀ v ∈ p.from_, ValI v
 list : ∀ x ∈ b.list, InsI x
 kind : I64 b.end_.kind
 on : ValI b.end_.on
 to : ∀ t ∈ b.end_.to, I64 t
structure FunI (f : UFun) : Prop where
 name : f.name.size ≤ maxLen
 params : I64 f.params
 regs : I64 f.regs
 blocks : ∀ b ∈ f.blocks, BlkI b
structure UntI (u : Unt) : Prop where
 globals : ∀ g ∈ u.globals, rpGlobal.ok g
 funcs : ∀ f ∈ u.funcs, FunI f
theorem q6n {v : UVal} (h : rpVal.ok v) : ValI v := h.2
theorem qm7 {x : UIns} (h : rpIns.ok x) : InsI x := ⟨h.1, h.2.1, q6n h.2.2.1, q6n h.2.2.2.1, h.2.2.2.2.1, fun v hv => q6n (h.2.2.2.2.2.2 v hv)⟩
theorem qm5 {b : UBlk} (h : rpBlk.ok b) : BlkI b :=
 ⟨fun p hp => ⟨(h.1.2 p hp).1, fun v hv => q6n ((h.1.2 p hp).2.2 v hv)⟩, fun x hx => qm7 (h.2.1.2 x hx), h.2.2.1, q6n h.2.2.2.1, fun t ht => h.2.2.2.2.2 t ht⟩
theorem qm6 {f : UFun} (h : rpFun.ok f) : FunI f := ⟨h.1, h.2.1, h.2.2.1, fun b hb => qm5 (h.2.2.2.2 b hb)⟩
theorem qm8 {u : Unt} (h : rpUnt.ok u) : UntI u := ⟨fun g hg => h.1.2 g hg, fun f hf => qm6 (h.2.2 f hf)⟩
end Go.Proofs.YtdanebboiekieaaGreatDoor
