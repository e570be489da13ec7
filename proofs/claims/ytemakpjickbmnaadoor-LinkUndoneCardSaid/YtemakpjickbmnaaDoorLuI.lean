/- LinkUndone's drawn region: what holds on its way. -/
import Derived.Test.YtemakpjickbmnaaDoorBase
import Derived.Test.YtemakpjickbmnaaDoorRows
import Derived.IntWalk
import Derived.Outline
import Derived.Deep.AppendLies
import Derived.Test.YtemakpjickbmnaaDoorInv
import Derived.Test.YtemakpjickbmnaaDoorLinkR
import Derived.Test.YtemakpjickbmnaaDoorLinkC
import Derived.Test.YtemakpjickbmnaaDoorLinkW
import Derived.Test.YtemakpjickbmnaaDoorMachA
namespace Go.Proofs.YtemakpjickbmnaaDoor
open Go.RowKit
set_option linter.unusedSimpArgs false
set_option linter.unusedVariables false

def upd (d : Nat → Bool) (i k : Nat) : Bool := if k = i then true else d k
theorem wpOp_of {P : Program} {ops : Array Oper} {Q : Exit → Act → World → Prop} {i : Nat} {o : Oper} {K : Act → World → Prop} {a : Act} {w : World} (hi : ops[i]? = some o) (hg : o.guard = none) (h : o.wp P a w K Q) : wpOp P ops Q i K a w := by
  unfold wpOp
  simp only [hi]
  rw [if_pos (by simp [Region.wanted, hg])]
  exact .inl h
theorem wp_value {P : Program} {Q : Exit → Act → World → Prop} {o : Oper} {K : Act → World → Prop} {a : Act} {w w' : World} {v : Value} (hr : (execOp a.eval o).run P w = .ok (.value v) w') (h : K (a.put o.dst v) w') : o.wp P a w K Q := by
  unfold Oper.wp
  rw [hr]
  exact h
theorem eval_tmp {a : Act} {t : Nat} {v : Value} (h : a.tmps[t]? = some v) : a.eval (.tmp t) = v := by
  show a.tmps.getD t undef = v
  rw [Array.getD_eq_getD_getElem?, h]
  rfl
theorem set_self {xs : Array Value} {k : Nat} {v : Value} (h : k < xs.size) : (xs.setIfInBounds k v)[k]? = some v := by simp [h]
/-- What the region starts from. -/
structure LuC where
  a0 : Act
  w0 : World
  V3 : Value
  n : Nat
  X1 : Value
  X2 : Value
  rows : List Value
  SLf : World → Value → Prop
  up : ∀ w w' v, Below w.heap.size w w' → SLf w v → SLf w' v
  gs : List Global
  rs : List Routine
def luS : List Nat := [10, 11, 72, 73, 74, 75, 76, 77, 78, 79, 80]
structure LuI (C : LuC) (p q : Nat) (v1 v2 : Value) (d : Nat → Bool) (a : Act) (w : World) : Prop where
  sz : a.tmps.size = C.a0.tmps.size
  df : a.defers = C.a0.defers
  ot : ∀ k, k ∉ luS → a.tmps[k]? = C.a0.tmps[k]?
  be : Below C.w0.heap.size C.w0 w
  o5 : d 5 = true → d 4 = true
  o6 : d 6 = true → d 5 = true
  o7 : d 7 = true → d 5 = true
  o8 : d 8 = true → d 5 = true
  o11 : d 11 = true → d 7 = true
  o9 : d 11 = true → d 9 = true
  s0 : d 0 = true → a.tmps[73]? = some C.V3
  s1 : d 1 = true → ∃ g cap, a.tmps[74]? = some (.slice (some ⟨g, 0, none⟩) C.n cap) ∧ (d 4 = false → w.ownsRow C.w0.heap.size 66 2 (.slice (some ⟨g, 0, none⟩) C.n cap) C.n C.rows)
  s2 : d 2 = true → a.tmps[75]? = some (.agg #[C.X1, C.X2])
  s3 : d 3 = true → ∃ g, a.tmps[76]? = some (.slice (some ⟨g, 0, none⟩) 1 1) ∧ (d 4 = false → w.heap[g]? = some (.cells #[C.X1, C.X2] 66 (0, 0)))
  s4 : d 4 = true → ∃ v, a.tmps[77]? = some v ∧ (d 5 = false → C.SLf w v)
  s5 : d 5 = true → a.tmps[78]? = some (.tuple #[.agg #[v1, v2], .agg #[.int .i64 0, .int .i64 0]]) ∧ ∃ w9 b, rpGlobal.SLF w9 b w9.heap.size C.gs v1 ∧ rpRoutine.SLF w9 b w9.heap.size C.rs v2 ∧ w9.heap.size ≤ w.heap.size ∧ (∀ k, b ≤ k → k < w9.heap.size → w.heap[k]? = w9.heap[k]?) ∧ (d 9 = true → p < b ∨ w9.heap.size ≤ p) ∧ (d 10 = true → q < b ∨ w9.heap.size ≤ q)
  s6 : d 6 = true → a.tmps[72]? = some (.tuple #[.agg #[v1, v2], .agg #[.int .i64 0, .int .i64 0]])
  s7 : d 7 = true → a.tmps[79]? = some (.agg #[v1, v2])
  s8 : d 8 = true → a.tmps[80]? = some (.agg #[.int .i64 0, .int .i64 0])
  s9 : d 9 = true → a.tmps[10]? = some (.pointer (some ⟨p, 0, none⟩)) ∧ C.w0.heap.size ≤ p ∧ w.heap[p]? = some (.cells (if d 11 = true then #[v1, v2] else #[.slice none 0 0, .slice none 0 0]) 50 (0, 0))
  s10 : d 10 = true → a.tmps[11]? = some (.pointer (some ⟨q, 0, none⟩)) ∧ C.w0.heap.size ≤ q ∧ w.heap[q]? = some (.cells #[.int .i64 0, .int .i64 0] 25 (0, 0))
/-- A slot is filled, the world stays. -/
theorem LuI.fill {C : LuC} {p q : Nat} {v1 v2 : Value} {d : Nat → Bool} {a : Act} {w : World} (H : LuI C p q v1 v2 d a w) (i k : Nat) (v : Value)
    (hik : (i = 0 ∧ k = 73 ∧ v = C.V3) ∨ (i = 2 ∧ k = 75 ∧ v = .agg #[C.X1, C.X2]) ∨ (i = 6 ∧ k = 72 ∧ v = .tuple #[.agg #[v1, v2], .agg #[.int .i64 0, .int .i64 0]] ∧ d 5 = true) ∨ (i = 7 ∧ k = 79 ∧ v = .agg #[v1, v2] ∧ d 5 = true) ∨ (i = 8 ∧ k = 80 ∧ v = .agg #[.int .i64 0, .int .i64 0] ∧ d 5 = true))
    (hsz : 80 < C.a0.tmps.size) : LuI C p q v1 v2 (upd d i) (a.put (some k) v) w := by
  have hs := H.sz
  have hlt : 80 < a.tmps.size := by rw [hs]; exact hsz
  have ho : ∀ j, j ∉ luS → k ≠ j := fun j hj e => by
    subst e
    rcases hik with ⟨_, rfl, _⟩ | ⟨_, rfl, _⟩ | ⟨_, rfl, _⟩ | ⟨_, rfl, _⟩ | ⟨_, rfl, _⟩ <;> exact hj (by simp [luS])
  rcases hik with ⟨rfl, rfl, rfl⟩ | ⟨rfl, rfl, rfl⟩ | ⟨rfl, rfl, rfl, h5⟩ | ⟨rfl, rfl, rfl, h5⟩ | ⟨rfl, rfl, rfl, h5⟩
  all_goals
    refine ⟨by simpa [Act.put] using hs, H.df, fun j hj => ?_, H.be, ?_, ?_, ?_, ?_, ?_, ?_, ?_, ?_, ?_, ?_, ?_, ?_, ?_, ?_, ?_, ?_, ?_⟩
    · show (a.tmps.setIfInBounds _ _)[j]? = _
      rw [Array.getElem?_setIfInBounds_ne (ho j hj)]
      exact H.ot j hj
    · have := H.o5; simpa [upd] using this
    · have := H.o6; first | (simpa [upd] using this) | (simp [upd]; exact h5)
    · have := H.o7; first | (simpa [upd] using this) | (simp [upd]; exact h5)
    · have := H.o8; first | (simpa [upd] using this) | (simp [upd]; exact h5)
    · have := H.o11; first | (simp [upd]; done) | (simpa [upd] using this)
    · have := H.o9; simpa [upd] using this
    · have := H.s0; first | (simpa [upd, Act.put] using this) | (simp [upd, Act.put]; exact set_self (by omega))
    · have := H.s1; simpa [upd, Act.put] using this
    · have := H.s2; first | (simpa [upd, Act.put] using this) | (simp [upd, Act.put]; exact set_self (by omega))
    · have := H.s3; simpa [upd, Act.put] using this
    · have := H.s4; simpa [upd, Act.put] using this
    · have := H.s5; simpa [upd, Act.put] using this
    · have := H.s6; first | (simpa [upd, Act.put] using this) | (simp [upd, Act.put]; exact set_self (by omega))
    · have := H.s7; first | (simpa [upd, Act.put] using this) | (simp [upd, Act.put]; exact set_self (by omega))
    · have := H.s8; first | (simpa [upd, Act.put] using this) | (simp [upd, Act.put]; exact set_self (by omega))
    · have := H.s9; simpa [upd, Act.put] using this
    · have := H.s10; simpa [upd, Act.put] using this
/-- The world grows. -/
theorem LuI.up {C : LuC} {p q : Nat} {v1 v2 : Value} {d : Nat → Bool} {a : Act} {w w' : World} (H : LuI C p q v1 v2 d a w) (hb : Below w.heap.size w w') : LuI C p q v1 v2 d a w' where
  sz := H.sz
  df := H.df
  ot := H.ot
  be := H.be.trans (hb.mono H.be.size)
  o5 := H.o5
  o6 := H.o6
  o7 := H.o7
  o8 := H.o8
  o11 := H.o11
  o9 := H.o9
  s0 := H.s0
  s1 := fun h => by
    obtain ⟨g, cap, h1, h2⟩ := H.s1 h
    exact ⟨g, cap, h1, fun h4 => ownsRow_below (h2 h4) hb (Nat.le_refl _)⟩
  s2 := H.s2
  s3 := fun h => by
    obtain ⟨g, h1, h2⟩ := H.s3 h
    exact ⟨g, h1, fun h4 => (hb.block _ (blk_lt (h2 h4))).trans (h2 h4)⟩
  s4 := fun h => by
    obtain ⟨v, h1, h2⟩ := H.s4 h
    exact ⟨v, h1, fun h5 => C.up _ _ _ hb (h2 h5)⟩
  s5 := fun h => by
    obtain ⟨h1, w9, b, h2, h3, h4, h5, h6⟩ := H.s5 h
    exact ⟨h1, w9, b, h2, h3, Nat.le_trans h4 hb.size, fun k hk1 hk2 => (hb.block k (by omega)).trans (h5 k hk1 hk2), h6⟩
  s6 := H.s6
  s7 := H.s7
  s8 := H.s8
  s9 := fun h => by
    obtain ⟨h1, h2, h3⟩ := H.s9 h
    exact ⟨h1, h2, (hb.block _ (blk_lt h3)).trans h3⟩
  s10 := fun h => by
    obtain ⟨h1, h2, h3⟩ := H.s10 h
    exact ⟨h1, h2, (hb.block _ (blk_lt h3)).trans h3⟩
section
variable {C : LuC} {p q : Nat} {v1 v2 : Value} {d : Nat → Bool} {a : Act} {w : World}
theorem lu_other {i j : Nat} (h : j ∉ luS) (hi : i ∈ luS) (xs : Array Value) (v : Value) : (xs.setIfInBounds i v)[j]? = xs[j]? := Array.getElem?_setIfInBounds_ne fun e => h (by rw [← e]; exact hi)
/-- append onto nil. -/
theorem LuI.setA (H : LuI C p q v1 v2 d a w) (hsz : 80 < C.a0.tmps.size) (g cap : Nat) (hown : w.ownsRow C.w0.heap.size 66 2 (.slice (some ⟨g, 0, none⟩) C.n cap) C.n C.rows) : LuI C p q v1 v2 (upd d 1) (a.put (some 74) (.slice (some ⟨g, 0, none⟩) C.n cap)) w := by
  have hlt : 80 < a.tmps.size := by rw [H.sz]; exact hsz
  refine ⟨by simpa [Act.put] using H.sz, H.df, fun j hj => (lu_other hj (by simp [luS]) _ _).trans (H.ot j hj), H.be, ?_, ?_, ?_, ?_, ?_, ?_, ?_, fun _ => ⟨g, cap, set_self (by omega), fun _ => hown⟩, ?_, ?_, ?_, ?_, ?_, ?_, ?_, ?_, ?_⟩
  · have := H.o5; simpa [upd] using this
  · have := H.o6; simpa [upd] using this
  · have := H.o7; simpa [upd] using this
  · have := H.o8; simpa [upd] using this
  · have := H.o11; simpa [upd] using this
  · have := H.o9; first | (simp [upd]; done) | (simpa [upd] using this)
  · have := H.s0; simpa [upd, Act.put] using this
  · have := H.s2; simpa [upd, Act.put] using this
  · have := H.s3; simpa [upd, Act.put] using this
  · have := H.s4; simpa [upd, Act.put] using this
  · have := H.s5; simpa [upd, Act.put] using this
  · have := H.s6; simpa [upd, Act.put] using this
  · have := H.s7; simpa [upd, Act.put] using this
  · have := H.s8; simpa [upd, Act.put] using this
  · have := H.s9; simpa [upd, Act.put] using this
  · have := H.s10; simpa [upd, Act.put] using this
/-- the one more object, in a block of its own. -/
theorem LuI.setB (H : LuI C p q v1 v2 d a w) (hsz : 80 < C.a0.tmps.size) (g : Nat) (hg : w.heap[g]? = some (.cells #[C.X1, C.X2] 66 (0, 0))) : LuI C p q v1 v2 (upd d 3) (a.put (some 76) (.slice (some ⟨g, 0, none⟩) 1 1)) w := by
  have hlt : 80 < a.tmps.size := by rw [H.sz]; exact hsz
  refine ⟨by simpa [Act.put] using H.sz, H.df, fun j hj => (lu_other hj (by simp [luS]) _ _).trans (H.ot j hj), H.be, ?_, ?_, ?_, ?_, ?_, ?_, ?_, ?_, ?_, fun _ => ⟨g, set_self (by omega), fun _ => hg⟩, ?_, ?_, ?_, ?_, ?_, ?_, ?_⟩
  · have := H.o5; simpa [upd] using this
  · have := H.o6; simpa [upd] using this
  · have := H.o7; simpa [upd] using this
  · have := H.o8; simpa [upd] using this
  · have := H.o11; simpa [upd] using this
  · have := H.o9; first | (simp [upd]; done) | (simpa [upd] using this)
  · have := H.s0; simpa [upd, Act.put] using this
  · have := H.s1; simpa [upd, Act.put] using this
  · have := H.s2; simpa [upd, Act.put] using this
  · have := H.s4; simpa [upd, Act.put] using this
  · have := H.s5; simpa [upd, Act.put] using this
  · have := H.s6; simpa [upd, Act.put] using this
  · have := H.s7; simpa [upd, Act.put] using this
  · have := H.s8; simpa [upd, Act.put] using this
  · have := H.s9; simpa [upd, Act.put] using this
  · have := H.s10; simpa [upd, Act.put] using this
/-- the image's variable. -/
theorem LuI.setX (H : LuI C p q v1 v2 d a w) (hsz : 80 < C.a0.tmps.size) (h11 : d 11 = false) (h9 : d 9 = false) : LuI C w.heap.size q v1 v2 (upd d 9) (a.put (some 10) (.pointer (some ⟨w.heap.size, 0, none⟩))) (w.alloc (.cells #[.slice none 0 0, .slice none 0 0] 50)) := by
  have hlt : 80 < a.tmps.size := by rw [H.sz]; exact hsz
  have hz := H.be.size
  have H2 := H.up (w' := w.alloc (.cells #[.slice none 0 0, .slice none 0 0] 50)) (by exact bl0)
  refine ⟨by simpa [Act.put] using H.sz, H.df, fun j hj => (lu_other hj (by simp [luS]) _ _).trans (H.ot j hj), H2.be, ?_, ?_, ?_, ?_, ?_, ?_, ?_, ?_, ?_, ?_, ?_, ?_, ?_, ?_, ?_, fun _ => ⟨set_self (by omega), hz, by rw [if_neg (by simp [upd, h11])]; exact heap_alloc_new _ _⟩, ?_⟩
  · have := H.o5; simpa [upd] using this
  · have := H.o6; simpa [upd] using this
  · have := H.o7; simpa [upd] using this
  · have := H.o8; simpa [upd] using this
  · have := H.o11; simpa [upd] using this
  · have := H.o9; first | (simp [upd]; done) | (simpa [upd] using this)
  · have := H2.s0; simpa [upd, Act.put] using this
  · have := H2.s1; simpa [upd, Act.put] using this
  · have := H2.s2; simpa [upd, Act.put] using this
  · have := H2.s3; simpa [upd, Act.put] using this
  · have := H2.s4; simpa [upd, Act.put] using this
  · intro h5
    have h5' : d 5 = true := by simpa [upd] using h5
    obtain ⟨_, w9, b, e1, e2, e3, e4, _, e6⟩ := H.s5 h5'
    obtain ⟨f0, _⟩ := H2.s5 h5'
    refine ⟨by simpa [Act.put] using f0, w9, b, e1, e2, by simp; omega, fun k hk1 hk2 => (Below.heap_alloc _ _ _ (by omega)).trans (e4 k hk1 hk2), fun _ => .inr e3, fun h => e6 (by simpa [upd] using h)⟩
  · have := H2.s6; simpa [upd, Act.put] using this
  · have := H2.s7; simpa [upd, Act.put] using this
  · have := H2.s8; simpa [upd, Act.put] using this
  · have := H2.s10; simpa [upd, Act.put] using this
/-- the fault's variable. -/
theorem LuI.setY (H : LuI C p q v1 v2 d a w) (hsz : 80 < C.a0.tmps.size) : LuI C p w.heap.size v1 v2 (upd d 10) (a.put (some 11) (.pointer (some ⟨w.heap.size, 0, none⟩))) (w.alloc (.cells #[.int .i64 0, .int .i64 0] 25)) := by
  have hlt : 80 < a.tmps.size := by rw [H.sz]; exact hsz
  have hz := H.be.size
  have H2 := H.up (w' := w.alloc (.cells #[.int .i64 0, .int .i64 0] 25)) (by exact bl0)
  refine ⟨by simpa [Act.put] using H.sz, H.df, fun j hj => (lu_other hj (by simp [luS]) _ _).trans (H.ot j hj), H2.be, ?_, ?_, ?_, ?_, ?_, ?_, ?_, ?_, ?_, ?_, ?_, ?_, ?_, ?_, ?_, ?_, fun _ => ⟨set_self (by omega), hz, heap_alloc_new _ _⟩⟩
  · have := H.o5; simpa [upd] using this
  · have := H.o6; simpa [upd] using this
  · have := H.o7; simpa [upd] using this
  · have := H.o8; simpa [upd] using this
  · have := H.o11; simpa [upd] using this
  · have := H.o9; first | (simp [upd]; done) | (simpa [upd] using this)
  · have := H2.s0; simpa [upd, Act.put] using this
  · have := H2.s1; simpa [upd, Act.put] using this
  · have := H2.s2; simpa [upd, Act.put] using this
  · have := H2.s3; simpa [upd, Act.put] using this
  · have := H2.s4; simpa [upd, Act.put] using this
  · intro h5
    have h5' : d 5 = true := by simpa [upd] using h5
    obtain ⟨_, w9, b, e1, e2, e3, e4, e5, _⟩ := H.s5 h5'
    obtain ⟨f0, _⟩ := H2.s5 h5'
    refine ⟨by simpa [Act.put] using f0, w9, b, e1, e2, by simp; omega, fun k hk1 hk2 => (Below.heap_alloc _ _ _ (by omega)).trans (e4 k hk1 hk2), fun h => e5 (by simpa [upd] using h), fun _ => .inr e3⟩
  · have := H2.s6; simpa [upd, Act.put] using this
  · have := H2.s7; simpa [upd, Act.put] using this
  · have := H2.s8; simpa [upd, Act.put] using this
  · have := H2.s9; simpa [upd, Act.put] using this
/-- append of the one more object. -/
theorem LuI.setC (H : LuI C p q v1 v2 d a w) (hsz : 80 < C.a0.tmps.size) (h1 : d 1 = true) (h4 : d 4 = false) {g1 cap1 : Nat} (hown : w.ownsRow C.w0.heap.size 66 2 (.slice (some ⟨g1, 0, none⟩) C.n cap1) C.n C.rows) {w' : World} (hg : w.grownBy w' (some g1)) (v : Value) (hv : C.SLf w' v) : LuI C p q v1 v2 (upd d 4) (a.put (some 77) v) w' := by
  have hlt : 80 < a.tmps.size := by rw [H.sz]; exact hsz
  have h5 : d 5 = false := by cases h : d 5 with | false => rfl | true => rw [H.o5 h] at h4; cases h4
  refine ⟨by simpa [Act.put] using H.sz, H.df, fun j hj => (lu_other hj (by simp [luS]) _ _).trans (H.ot j hj), H.be.grown hg H.be.size (fun k hk => by cases hk; exact (hown.lt g1 rfl).1), ?_, ?_, ?_, ?_, ?_, ?_, ?_, ?_, ?_, ?_, fun _ => ⟨v, set_self (by omega), fun _ => hv⟩, ?_, ?_, ?_, ?_, ?_, ?_⟩
  · simp [upd, h5]
  · have := H.o6; simpa [upd] using this
  · have := H.o7; simpa [upd] using this
  · have := H.o8; simpa [upd] using this
  · have := H.o11; simpa [upd] using this
  · have := H.o9; first | (simp [upd]; done) | (simpa [upd] using this)
  · have := H.s0; simpa [upd, Act.put] using this
  · intro h
    obtain ⟨g, cap, e, _⟩ := H.s1 (by simpa [upd] using h)
    exact ⟨g, cap, by simpa [Act.put] using e, fun e4 => by simp [upd] at e4⟩
  · have := H.s2; simpa [upd, Act.put] using this
  · intro h
    obtain ⟨g, e, _⟩ := H.s3 (by simpa [upd] using h)
    exact ⟨g, by simpa [Act.put] using e, fun e4 => by simp [upd] at e4⟩
  · intro h
    have h' : d 5 = true := by simpa [upd] using h
    rw [h5] at h'; cases h'
  · have := H.s6; simpa [upd, Act.put] using this
  · have := H.s7; simpa [upd, Act.put] using this
  · have := H.s8; simpa [upd, Act.put] using this
  · intro h
    obtain ⟨e1, e2, e3⟩ := H.s9 (by simpa [upd] using h)
    have hne := row_not hown e3 (by decide)
    refine ⟨by simpa [Act.put] using e1, e2, (hg.block p (blk_lt e3) (fun e => hne e.symm)).trans (by simpa [upd] using e3)⟩
  · intro h
    obtain ⟨e1, e2, e3⟩ := H.s10 (by simpa [upd] using h)
    have hne := row_not hown e3 (by decide)
    exact ⟨by simpa [Act.put] using e1, e2, (hg.block q (blk_lt e3) (fun e => hne e.symm)).trans e3⟩
/-- the call. -/
theorem LuI.setD (H : LuI C p q v1 v2 d a w) (hsz : 80 < C.a0.tmps.size) (h4 : d 4 = true) (h5 : d 5 = false) {w' : World} (hb : Below w.heap.size w w') {u1 u2 : Value} (hu1 : rpGlobal.SLF w' w.heap.size w'.heap.size C.gs u1) (hu2 : rpRoutine.SLF w' w.heap.size w'.heap.size C.rs u2) :
    LuI C p q u1 u2 (upd d 5) (a.put (some 78) (.tuple #[.agg #[u1, u2], .agg #[.int .i64 0, .int .i64 0]])) w' := by
  have hlt : 80 < a.tmps.size := by rw [H.sz]; exact hsz
  have h6 : d 6 = false := by cases h : d 6 with | false => rfl | true => rw [H.o6 h] at h5; cases h5
  have h7 : d 7 = false := by cases h : d 7 with | false => rfl | true => rw [H.o7 h] at h5; cases h5
  have h8 : d 8 = false := by cases h : d 8 with | false => rfl | true => rw [H.o8 h] at h5; cases h5
  have h11 : d 11 = false := by cases h : d 11 with | false => rfl | true => rw [H.o11 h] at h7; cases h7
  have H2 := H.up hb
  refine ⟨by simpa [Act.put] using H.sz, H.df, fun j hj => (lu_other hj (by simp [luS]) _ _).trans (H.ot j hj), H2.be, ?_, ?_, ?_, ?_, ?_, ?_, ?_, ?_, ?_, ?_, ?_, fun _ => ⟨set_self (by omega), w', w.heap.size, hu1, hu2, Nat.le_refl _, fun _ _ _ => rfl, fun h => .inl ?_, fun h => .inl ?_⟩, ?_, ?_, ?_, ?_, ?_⟩
  · simp [upd, h4]
  · simp [upd]
  · simp [upd]
  · simp [upd]
  · simp [upd, h11]
  · simp [upd, h11]
  · have := H2.s0; simpa [upd, Act.put] using this
  · have := H2.s1; simpa [upd, Act.put] using this
  · have := H2.s2; simpa [upd, Act.put] using this
  · have := H2.s3; simpa [upd, Act.put] using this
  · intro h
    obtain ⟨v, e, _⟩ := H2.s4 h4
    exact ⟨v, by simpa [Act.put] using e, fun e5 => by simp [upd] at e5⟩
  · exact blk_lt (H.s9 (by simpa [upd] using h)).2.2
  · exact blk_lt (H.s10 (by simpa [upd] using h)).2.2
  · simp [upd, h6]
  · simp [upd, h7]
  · simp [upd, h8]
  · intro h
    obtain ⟨e1, e2, e3⟩ := H2.s9 (by simpa [upd] using h)
    refine ⟨by simpa [Act.put] using e1, e2, ?_⟩
    rw [if_neg (by simp [h11])] at e3
    rw [if_neg (by simp [upd, h11])]
    exact e3
  · have := H2.s10; simpa [upd, Act.put] using this
/-- the image is stored. -/
theorem LuI.stX (H : LuI C p q v1 v2 d a w) (h9 : d 9 = true) (h7 : d 7 = true) : LuI C p q v1 v2 (upd d 11) a ((w.setCell ⟨p, 0, none⟩ v1).setCell ⟨p, 1, none⟩ v2) := by
  have h5 := H.o7 h7
  have h4 := H.o5 h5
  obtain ⟨x1, x2, x3⟩ := H.s9 h9
  refine ⟨H.sz, H.df, H.ot, (H.be.setCell (p := ⟨p, 0, none⟩) x2 _).setCell (p := ⟨p, 1, none⟩) x2 _, ?_, ?_, ?_, ?_, ?_, ?_, ?_, ?_, ?_, ?_, ?_, ?_, ?_, ?_, ?_, ?_, ?_⟩
  · have := H.o5; simpa [upd] using this
  · have := H.o6; simpa [upd] using this
  · have := H.o7; simpa [upd] using this
  · have := H.o8; simpa [upd] using this
  · simp [upd, h7]
  · simp [upd, h9]
  · have := H.s0; simpa [upd] using this
  · intro h
    obtain ⟨g, cap, e, _⟩ := H.s1 (by simpa [upd] using h)
    exact ⟨g, cap, e, fun e4 => by simp [upd, h4] at e4⟩
  · have := H.s2; simpa [upd] using this
  · intro h
    obtain ⟨g, e, _⟩ := H.s3 (by simpa [upd] using h)
    exact ⟨g, e, fun e4 => by simp [upd, h4] at e4⟩
  · intro h
    obtain ⟨v, e, _⟩ := H.s4 h4
    exact ⟨v, e, fun e5 => by simp [upd, h5] at e5⟩
  · intro _
    obtain ⟨e0, w9, b, e1, e2, e3, e4, e5, e6⟩ := H.s5 h5
    refine ⟨e0, w9, b, e1, e2, by simp [World.setCell]; exact e3, fun k hk1 hk2 => ?_, fun h => e5 h9, fun h => e6 (by simpa [upd] using h)⟩
    have hne : k ≠ p := by have := e5 h9; omega
    rw [Below.heap_setCell _ _ _ _ hne, Below.heap_setCell _ _ _ _ hne]
    exact e4 k hk1 hk2
  · have := H.s6; simpa [upd] using this
  · have := H.s7; simpa [upd] using this
  · have := H.s8; simpa [upd] using this
  · intro _
    refine ⟨x1, x2, ?_⟩
    rw [if_pos (by simp [upd])]
    by_cases h11 : d 11 = true
    · rw [if_pos h11] at x3
      have := block_set (j := 1) (block_set (j := 0) x3 v1) v2
      simpa using this
    · rw [if_neg h11] at x3
      have := block_set (j := 1) (block_set (j := 0) x3 v1) v2
      simpa using this
  · intro h
    obtain ⟨e1, e2, e3⟩ := H.s10 (by simpa [upd] using h)
    have hne : q ≠ p := fun e => by
      rw [e, x3] at e3
      injection e3 with e3
      injection e3 with _ e4
      revert e4
      decide
    refine ⟨e1, e2, ?_⟩
    rw [Below.heap_setCell _ _ _ _ hne, Below.heap_setCell _ _ _ _ hne]
    exact e3
/-- the fault is stored. -/
theorem LuI.stY (H : LuI C p q v1 v2 d a w) (h10 : d 10 = true) (h8 : d 8 = true) : LuI C p q v1 v2 (upd d 12) a ((w.setCell ⟨q, 0, none⟩ (.int .i64 0)).setCell ⟨q, 1, none⟩ (.int .i64 0)) := by
  have h5 := H.o8 h8
  have h4 := H.o5 h5
  obtain ⟨x1, x2, x3⟩ := H.s10 h10
  refine ⟨H.sz, H.df, H.ot, (H.be.setCell (p := ⟨q, 0, none⟩) x2 _).setCell (p := ⟨q, 1, none⟩) x2 _, ?_, ?_, ?_, ?_, ?_, ?_, ?_, ?_, ?_, ?_, ?_, ?_, ?_, ?_, ?_, ?_, ?_⟩
  · have := H.o5; simpa [upd] using this
  · have := H.o6; simpa [upd] using this
  · have := H.o7; simpa [upd] using this
  · have := H.o8; simpa [upd] using this
  · have := H.o11; simpa [upd] using this
  · have := H.o9; first | (simp [upd]; done) | (simpa [upd] using this)
  · have := H.s0; simpa [upd] using this
  · intro h
    obtain ⟨g, cap, e, _⟩ := H.s1 (by simpa [upd] using h)
    exact ⟨g, cap, e, fun e4 => by simp [upd, h4] at e4⟩
  · have := H.s2; simpa [upd] using this
  · intro h
    obtain ⟨g, e, _⟩ := H.s3 (by simpa [upd] using h)
    exact ⟨g, e, fun e4 => by simp [upd, h4] at e4⟩
  · intro h
    obtain ⟨v, e, _⟩ := H.s4 h4
    exact ⟨v, e, fun e5 => by simp [upd, h5] at e5⟩
  · intro _
    obtain ⟨e0, w9, b, e1, e2, e3, e4, e5, e6⟩ := H.s5 h5
    refine ⟨e0, w9, b, e1, e2, by simp [World.setCell]; exact e3, fun k hk1 hk2 => ?_, fun h => e5 (by simpa [upd] using h), fun h => e6 h10⟩
    have hne : k ≠ q := by have := e6 h10; omega
    rw [Below.heap_setCell _ _ _ _ hne, Below.heap_setCell _ _ _ _ hne]
    exact e4 k hk1 hk2
  · have := H.s6; simpa [upd] using this
  · have := H.s7; simpa [upd] using this
  · have := H.s8; simpa [upd] using this
  · intro h
    obtain ⟨e1, e2, e3⟩ := H.s9 (by simpa [upd] using h)
    have hne : p ≠ q := fun e => by
      rw [e, x3] at e3
      injection e3 with e3
      injection e3 with _ e4
      revert e4
      decide
    refine ⟨e1, e2, ?_⟩
    rw [Below.heap_setCell _ _ _ _ hne, Below.heap_setCell _ _ _ _ hne]
    simpa [upd] using e3
  · intro _
    refine ⟨x1, x2, ?_⟩
    have := block_set (j := 1) (block_set (j := 0) x3 (.int .i64 0)) (.int .i64 0)
    simpa using this
end
theorem upd_set {l : Array Bool} {i : Nat} (h : i < l.size) : (fun k => (l.setIfInBounds i true).getD k false) = upd (fun k => l.getD k false) i := by
  funext k
  unfold upd
  simp only [Array.getD_eq_getD_getElem?, Array.getElem?_setIfInBounds]
  by_cases e : k = i
  · subst e
    simp [h]
  · rw [if_neg (fun h => e h.symm), if_neg e]
theorem lu_region {ops : Array Oper} {Q : Exit → Act → World → Prop} {id : Nat} {a0 : Act} {w : World} (hm : Tryd.prog.follows .mixedOrders = true) (V3 : Value) (n : Nat) (X1 X2 : Value) (rows : List Value) (SLf : World → Value → Prop) (hup : ∀ w w' v, Below w.heap.size w w' → SLf w v → SLf w' v) (gs : List Global) (rs : List Routine)
    (hd : ∀ (i : Nat) (o : Oper), ops[i]? = some o → ∀ e ∈ o.after, Region.binds .any e = true → e.on < i)
    (hs : ∀ p q v1 v2 (l : Array Bool) a w' i, l.size = ops.size → LuI ⟨a0, w, V3, n, X1, X2, rows, SLf, hup, gs, rs⟩ p q v1 v2 (fun k => l.getD k false) a w' → i ∈ Region.ready .any ops l → wpOp Tryd.prog ops Q i (fun a' w'' => ∃ p q v1 v2, LuI ⟨a0, w, V3, n, X1, X2, rows, SLf, hup, gs, rs⟩ p q v1 v2 (upd (fun k => l.getD k false) i) a' w'') a w')
    (he : ∀ p q v1 v2 (d : Nat → Bool) a w', (∀ i, i < ops.size → d i = true) → LuI ⟨a0, w, V3, n, X1, X2, rows, SLf, hup, gs, rs⟩ p q v1 v2 d a w' → Q .normal a w') : (Code.region id ops true).wp Tryd.prog Q a0 w := by
  refine wp_region_inv hm (fun l a w' => ∃ p q v1 v2, LuI ⟨a0, w, V3, n, X1, X2, rows, SLf, hup, gs, rs⟩ p q v1 v2 (fun k => l.getD k false) a w') ?_ hd ?_ ?_
  · have hf : ∀ k, (Array.replicate ops.size false).getD k false = false := fun k => by
      rw [Array.getD_eq_getD_getElem?, Array.getElem?_replicate]
      split <;> rfl
    refine ⟨0, 0, .bool false, .bool false, rfl, rfl, fun _ _ => rfl, (Below.refl _ _).drew, ?_, ?_, ?_, ?_, ?_, ?_, ?_, ?_, ?_, ?_, ?_, ?_, ?_, ?_, ?_, ?_, ?_⟩ <;> intro h <;> (rw [hf] at h; cases h)
  · rintro l a w' i hz ⟨p, q, v1, v2, H⟩ hi
    have hlt : i < l.size := by
      rw [hz]
      obtain ⟨_, o, ho, _⟩ := mem_ready.1 hi
      exact (Array.getElem?_eq_some_iff.1 ho).1
    refine wpOp_mono (fun a' w'' h => ?_) (hs p q v1 v2 l a w' i hz H hi)
    obtain ⟨p, q, v1, v2, h⟩ := h
    exact ⟨p, q, v1, v2, by rw [upd_set hlt]; exact h⟩
  · rintro l a w' hz ⟨p, q, v1, v2, H⟩ hall
    exact he p q v1 v2 _ a w' hall H
end Go.Proofs.YtemakpjickbmnaaDoor
