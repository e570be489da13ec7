/- Moves: what the library's functions on slices of moves come to. -/
import Derived.Test.YtmlmnhhgdcfchaaLib
import Derived.Test.YtmlmnhhgdcfchaaRows
import Derived.IntWalk
import Derived.Test.YtmlmnhhgdcfchaaFrame3
namespace Go.Proofs.Ytmlmnhhgdcfchaa
open Go.RowKit
set_option linter.unusedSimpArgs false
set_option linter.unusedVariables false

structure Move where
  to : Int
  src : Int
def Move.tup (m : Move) : Int × Int := (m.to, m.src)
theorem Move.tup_inj {m n : Move} (h : m.tup = n.tup) : m = n := by
  cases m
  cases n
  simpa [Move.tup] using h
instance : DecidableEq Move := fun m n => if h : m.tup = n.tup then isTrue (Move.tup_inj h) else isFalse (fun e => h (by rw [e]))
def Move.cells (m : Move) : List Value := [.int .i64 m.to, .int .i64 m.src]
def Move.zero : Move := ⟨0, 0⟩
def rpMove : Rp Move := (rpInt.pair rpInt).as_ Move.tup
theorem rpMove_rep {w : World} {B : Nat} {m : Move} {cs : List Value} : rpMove.rep w B m cs ↔ cs = m.cells := by
  simp [rpMove, Rp.as_, Rp.pair, rpInt, Move.tup, Move.cells]
theorem SLMove_own {w : World} {B base : Nat} {e : TypeId} {v : Value} {xs : List Move} (h : w.ownsRow base e 2 v xs.length (xs.flatMap Move.cells)) (hB : w.heap.size ≤ B) : rpMove.SL w B xs v :=
  Rp.SL.of_own (r := rpMove) (fun _ _ _ => rpMove_rep.2 rfl) (fun _ => rfl) h hB
theorem opensMove : rpMove.opens Try.prog 47 :=
  opens_as (fun x => ⟨x.1, x.2⟩) (fun _ => rfl) (opens_struct Try.underlying47 (by kernel_rfl) (fields_cons (opens_int Try.underlying3 (by kernel_rfl)) rfl (fields_one (opens_int Try.underlying3 (by kernel_rfl)) rfl)))
theorem info_Move : (Try.prog.info? 47).map (fun i => (i.zero, i.size, i.bytes)) = some (some (.agg #[.int .i64 0, .int .i64 0]), 2, 16) := by kernel_rfl
theorem Rp.SL.move_at {w : World} {B : Nat} {xs : List Move} {A : Option Addr} {n c k : Nat} (h : rpMove.SL w B xs (.slice A n c)) (hk : k < xs.length) : ∃ b off m, A = some ⟨b, off, none⟩ ∧ b < B ∧ xs[k]? = some m ∧
    w.cell? ⟨b, off + k * 2, none⟩ = some (.int .i64 m.to) ∧ w.cell? ⟨b, off + k * 2 + 1, none⟩ = some (.int .i64 m.src) := by
  obtain ⟨b, off, cs, hA, hb, hr, hcs⟩ := h.at_ (List.getElem?_eq_getElem hk)
  rw [rpMove_rep] at hr
  subst hr
  exact ⟨b, off, xs[k], hA, hb, List.getElem?_eq_getElem hk, hcs 0 _ rfl, hcs 1 _ rfl⟩
theorem neq_Move (m n : Move) (w : World) : (binOp .neq 47 (.agg #[.int .i64 m.to, .int .i64 m.src]) (.agg #[.int .i64 n.to, .int .i64 n.src])).run Try.prog w = .ok (.bool (!decide (m = n))) w := by
  have hp : Try.prog.stoodInHeld 47 = false := by kernel_rfl
  have ht : Try.prog.underlying 47 = some (.struct (Try.prog.fieldsOf 47)) := by kernel_rfl
  rw [run_neq_struct, run_equalIn_agg _ _ _ _ _ ht hp]
  have h3 := Try.underlying3
  simp [Try.underlying47, go_sem, h3]
  have e : m = n ↔ m.to = n.to ∧ m.src = n.src := by
    cases m
    cases n
    simp
  by_cases h1 : m.to = n.to <;> by_cases h2 : m.src = n.src <;> simp [e, h1, h2]

/-- The first place at which something holds; -1: nowhere. -/
def idx {α : Type} (p : α → Bool) (xs : List α) : Int := match xs.findIdx? p with
  | some i => (i : Int)
  | none => -1
theorem idx_skip {α : Type} {p : α → Bool} {xs : List α} {k : Nat} (h : ∀ j x, j < k → xs[j]? = some x → p x = false) (hk : k ≤ xs.length) : idx p xs = (match (xs.drop k).findIdx? p with | some i => ((i + k : Nat) : Int) | none => -1) := by
  induction k generalizing xs with
  | zero => simp [idx]
  | succ k ih =>
    cases xs with
    | nil => simp at hk
    | cons y ys =>
      have h0 : p y = false := h 0 y (by omega) rfl
      have := ih (xs := ys) (fun j x hj hx => h (j + 1) x (by omega) (by simpa using hx)) (by simpa using hk)
      rw [List.drop_succ_cons, idx, List.findIdx?_cons, h0]
      rw [idx] at this
      simp only [Bool.false_eq_true, if_false]
      cases h1 : ys.findIdx? p with
      | none =>
        rw [h1] at this
        cases h2 : (ys.drop k).findIdx? p with
        | none => rfl
        | some i => rw [h2] at this; simp at this <;> omega
      | some i =>
        rw [h1] at this
        cases h2 : (ys.drop k).findIdx? p with
        | none => rw [h2] at this; simp at this <;> omega
        | some i => rw [h2] at this; simp at this ⊢; omega
theorem idx_none {α : Type} {p : α → Bool} {xs : List α} (h : ∀ j x, j < xs.length → xs[j]? = some x → p x = false) : idx p xs = -1 := by
  rw [idx_skip h (Nat.le_refl _)]
  simp
theorem idx_some {α : Type} {p : α → Bool} {xs : List α} {k : Nat} {x : α} (h : ∀ j x, j < k → xs[j]? = some x → p x = false) (hx : xs[k]? = some x) (hp : p x = true) : idx p xs = k := by
  have hk : k < xs.length := (List.getElem?_eq_some_iff.1 hx).1
  rw [idx_skip h (by omega), List.drop_eq_getElem_cons hk, List.findIdx?_cons]
  have : p xs[k] = true := by rw [List.getElem?_eq_getElem hk] at hx; injection hx with hx; rw [hx]; exact hp
  simp [this]

theorem step_all {α : Type} {p : α → Bool} {xs : List α} {k : Nat} {m : α} (h : ∀ j x, j < k → xs[j]? = some x → p x = false) (e : xs[k]? = some m) (hp : p m = false) : ∀ j x, j < k + 1 → xs[j]? = some x → p x = false := by
  intro j x hj hx
  rcases Nat.lt_or_ge j k with hlt | hge
  · exact h j x hlt hx
  · obtain rfl : j = k := by omega
    rw [e] at hx
    injection hx with hx
    rw [← hx]
    exact hp

/-- What a closure that answers a bool of a move has to do. -/
def Asks (f : FuncId) (caps : List Value) (p : Move → Bool) (w : World) : Prop :=
  Enters Try.prog f ∧ ∀ (x : Move) (W : World) (R : Ending → World → Prop), Below w.heap.size w W → (∀ W', Below W.heap.size W W' → R (.returned (.bool (p x))) W') → Calls Try.prog f (.agg #[.int .i64 x.to, .int .i64 x.src] :: caps).toArray W R

set_option maxHeartbeats 400000 in
theorem IndexFunc_calls (f : FuncId) (c : Value) (p : Move → Bool) (v : Value) (xs : List Move) (w : World) (h : rpMove.SL w w.heap.size xs v) (hf : Asks f [c] p w) (R : Ending → World → Prop)
    (hR : ∀ w', Below w.heap.size w w' → R (.returned (.int .i64 (idx p xs))) w') :
    Calls Try.prog 38 #[v, .func (.func f) #[] #[c]] w R := by
  obtain ⟨hen, hf⟩ := hf
  have hcf := hen.run
  obtain ⟨A, n, rfl, hm, _, h⟩ := h.cases_
  go_enter Try.func38, Try.ntmps38
  go_wp2
  go_loopw [8] (fun i wr => ∃ k : Nat, k ≤ xs.length ∧ i = .int .i64 k ∧ (∀ j x, j < k → xs[j]? = some x → p x = false) ∧ Below w.heap.size w wr) (fun i _ => xs.length - (intOf i).toNat)
  case atStart => exact ⟨0, Nat.zero_le _, rfl, fun j x hj => absurd hj (by omega), Below.refl _ _⟩
  case round =>
    obtain ⟨k, hk, rfl, ht, hbel⟩ := hrel
    have Ht := Lib.hid ht
    clear ht
    by_cases hlt : k < xs.length
    · obtain ⟨b, off, m, rfl, hb, e, p0, p1⟩ := h.move_at hlt
      have E := Lib.hid e
      rw [← hbel.cell (p := ⟨_, _, none⟩) hb] at p0 p1
      clear e h
      have Hf := Lib.hid (hf m)
      clear hf
      go_wp2_with fail
      refine Hf.out _ _ hbel ?_
      intro w1 hb1
      have hbel1 := hbel.trans (hb1.mono hbel.size)
      by_cases hp : p m = true
      · rw [hp]
        go_wp2
        rw [idx_some Ht.out E.out hp] at hR
        exact hR _ hbel1
      · have hp' : p m = false := by simpa using hp
        rw [hp']
        go_wp2
        go_roundw
        case rel => exact ⟨k + 1, by omega, by go_num, step_all Ht.out E.out hp', hbel1⟩
        case measure => simp [intOf]; omega
    · obtain rfl : k = xs.length := by omega
      go_wp2
      rw [idx_none Ht.out] at hR
      exact hR _ hbel

theorem idx_ge {α : Type} (p : α → Bool) (xs : List α) : decide (0 ≤ idx p xs) = xs.any p := by
  unfold idx
  cases h : xs.findIdx? p with
  | none =>
    rw [List.findIdx?_eq_none_iff] at h
    rw [show xs.any p = false from by rw [List.any_eq_false]; intro x hx; simp [h x hx]]
    rfl
  | some i =>
    obtain ⟨hi, hp, _⟩ := List.findIdx?_eq_some_iff_getElem.1 h
    rw [show xs.any p = true from List.any_eq_true.2 ⟨xs[i], List.getElem_mem _, hp⟩]
    simp

set_option maxHeartbeats 400000 in
theorem ContainsFunc_calls (f : FuncId) (c : Value) (p : Move → Bool) (v : Value) (xs : List Move) (w : World) (h : rpMove.SL w w.heap.size xs v) (hf : Asks f [c] p w) (R : Ending → World → Prop)
    (hR : ∀ w', Below w.heap.size w w' → R (.returned (.bool (xs.any p))) w') :
    Calls Try.prog 31 #[v, .func (.func f) #[] #[c]] w R := by
  have hge := idx_ge p xs
  have Hf := Lib.hid hf
  clear hf
  go_enter Try.func31, Try.ntmps31
  go_wp2_with fail
  refine IndexFunc_calls _ _ p _ _ _ h Hf.out _ ?_
  intro w1 hb1
  generalize idx p xs = z at *
  go_wp2
  first | exact (by repeat (first | exact Below.refl _ _ | assumption | refine below_drewN ?_ _ | refine Below.drew ?_ | refine Below.setCell ?_ (by first | omega | (simp; done) | (simp; omega)) _ | refine Below.alloc ?_ (by first | omega | (simp; done) | (simp; omega)) _ | refine below_step (by assumption) ?_ (by first | omega | (simp; done) | (simp; omega)))) | exact hR _ (by repeat (first | exact Below.refl _ _ | assumption | refine below_drewN ?_ _ | refine Below.drew ?_ | refine Below.setCell ?_ (by first | omega | (simp; done) | (simp; omega)) _ | refine Below.alloc ?_ (by first | omega | (simp; done) | (simp; omega)) _ | refine below_step (by assumption) ?_ (by first | omega | (simp; done) | (simp; omega))))

set_option maxHeartbeats 400000 in
theorem had_asks (g : Nat) (t : Int) (w : World) (hg : g < w.heap.size) (hc : w.cell? ⟨g, 0, none⟩ = some (.int .i64 t)) : Asks 32 [.pointer (some ⟨g, 0, none⟩)] (fun o => o.to == t) w := by
  refine ⟨⟨_, Try.func32, by kernel_rfl, rfl⟩, fun x W R hW hR => ?_⟩
  have hc' : W.cell? ⟨g, 0, none⟩ = some (.int .i64 t) := (hW.cell hg).trans hc
  have hg' : g < W.heap.size := by have := hW.size; omega
  clear hW hc
  go_enter Try.func32, Try.ntmps32
  go_wp2
  first | exact (by repeat (first | exact Below.refl _ _ | assumption | refine below_drewN ?_ _ | refine Below.drew ?_ | refine Below.setCell ?_ (by first | omega | (simp; done) | (simp; omega)) _ | refine Below.alloc ?_ (by first | omega | (simp; done) | (simp; omega)) _ | refine below_step (by assumption) ?_ (by first | omega | (simp; done) | (simp; omega)))) | exact hR _ (by repeat (first | exact Below.refl _ _ | assumption | refine below_drewN ?_ _ | refine Below.drew ?_ | refine Below.setCell ?_ (by first | omega | (simp; done) | (simp; omega)) _ | refine Below.alloc ?_ (by first | omega | (simp; done) | (simp; omega)) _ | refine below_step (by assumption) ?_ (by first | omega | (simp; done) | (simp; omega))))
end Go.Proofs.Ytmlmnhhgdcfchaa
