/- The machine, plainly: its states, what an instruction does, runs. What the machine reckons: core.Two, goes. The machine, as it lies in memory: its variable, its rows, its frames. The machine: instructions that move words. -/
import Derived.Test.YtcakodemngchpaaGreatDoorPlainA
import Derived.IntWalk
import Derived.Test.YtcakodemngchpaaGreatDoorBase
import Derived.Test.YtcakodemngchpaaGreatDoorRows
import Derived.Outline
import Derived.Test.YtcakodemngchpaaGreatDoorCopyA
import Derived.Test.YtcakodemngchpaaGreatDoorAppA
import Derived.Deep.RegionHeld3
import Derived.Deep.RegionLaw
/- The machine, plainly: its states, what an instruction does, runs. -/
namespace Go.Proofs.YtcakodemngchpaaGreatDoor
open Go.RowKit
set_option linter.unusedSimpArgs false
set_option linter.unusedVariables false

def macZ0 : Mac := ⟨0, 0, 0, 0, 0⟩
/-- What an Op makes of two numbers; none: divided by 0. -/
def twoI (op a b : Int) : Option Int :=
  if op = 2 then some (wrap64 (a + b))
  else if op = 3 then some (wrap64 (a - b))
  else if op = 4 then some (wrap64 (a * b))
  else if op = 5 then (if b = 0 then none else some (wrap64 (a.tdiv b)))
  else if op = 6 then (if b = 0 then none else some (a.tmod b))
  else if op = 7 then some (bits .and .i64 a b)
  else if op = 8 then some (bits .or .i64 a b)
  else if op = 9 then some (bits .xor .i64 a b)
  else if op = 10 then some (wrap64 (a * 2 ^ (bits .and .i64 b 63).toNat))
  else if op = 11 then some (a / 2 ^ (bits .and .i64 b 63).toNat)
  else if op = 12 then some (if a = b then 1 else 0)
  else if op = 13 then some (if a = b then 0 else 1)
  else if op = 14 then some (if a < b then 1 else 0)
  else some (if a ≤ b then 1 else 0)
/-- A routine that is under way: which one, which instruction is next, its frame. -/
structure Frm where
  rt : Nat
  pc : Nat
  fr : List Int
/-- The machine; calls: the last one first. -/
structure MS where
  regs : List Int
  mem : List Int
  calls : List Frm
  inp : List Int
  st : Int
  val : Int
  out : List Int
  steps : Nat
  over : Bool
def MS.reg (s : MS) (r : Int) : Int := s.regs.getD r.toNat 0
def MS.put (s : MS) (r x : Int) : MS := { s with regs := s.regs.set r.toNat x }
def MS.ends (s : MS) (k : Int) : MS := { s with st := k, over := true }
def reckM (s : MS) (op dst a b : Int) : MS :=
  match twoI (op - 3) a b with
  | none => s.ends 2
  | some x => s.put dst x
def goesM (op a b : Int) : Bool :=
  if op = 38 then !decide (a = 0) else if op = 39 then decide (a = 0) else if op = 40 then decide (a = b) else if op = 41 then !decide (a = b)
  else if op = 42 then decide (a < b) else if op = 43 then decide (a ≤ b) else true
def MS.fits (s : MS) (n : Int) : Bool := decide (0 ≤ n) && decide (n < (s.mem.length : Int))
/-- An instruction that moves words; c: the routine that is under way, r: those that called it. -/
def movesM (m : Mac) (c : Frm) (r : List Frm) (s : MS) : MS :=
  if m.op = 1 then s.put m.dst m.n
  else if m.op = 2 then s.put m.dst (s.reg m.a)
  else if m.op = 3 then s.put m.dst (wrap64 (-(s.reg m.a)))
  else if m.op = 4 then s.put m.dst (bits .xor .i64 (-1) (s.reg m.a))
  else if m.op = 33 then
    (if s.fits (wrap64 (s.reg m.a + m.n)) then s.put m.dst (s.mem.getD (wrap64 (s.reg m.a + m.n)).toNat 0) else s.ends 3)
  else if m.op = 34 then
    (if s.fits (wrap64 (s.reg m.a + m.n)) then { s with mem := s.mem.set (wrap64 (s.reg m.a + m.n)).toNat (s.reg m.b) } else s.ends 3)
  else if m.op = 35 then s.put m.dst (c.fr.getD m.n.toNat 0)
  else if m.op = 36 then { s with calls := ⟨c.rt, c.pc, c.fr.set m.n.toNat (s.reg m.a)⟩ :: r }
  else s
def frame0 : List Int := List.replicate 120 0
/-- An instruction that calls, returns, reads or prints. -/
def speaksM (m : Mac) (c : Frm) (r : List Frm) (s : MS) : MS :=
  if m.op = 44 then (if r.length + 1 = 30 then s.ends 4 else { s with calls := ⟨m.n.toNat, 0, frame0⟩ :: c :: r })
  else if m.op = 45 then (if r = [] then { s with calls := [], val := s.reg 0, st := 0, over := true } else { s with calls := r })
  else if m.op = 46 then
    (match s.inp with
    | [] => s.put m.dst (-1)
    | x :: l => { s.put m.dst x with inp := l })
  else if m.op = 47 then (if s.out.length = 200 then s.ends 5 else { s with out := s.out ++ [s.reg m.a] })
  else s
def doM (m : Mac) (c : Frm) (r : List Frm) (s : MS) : MS :=
  if 5 ≤ m.op ∧ m.op ≤ 18 then reckM s m.op m.dst (s.reg m.a) (s.reg m.b)
  else if 19 ≤ m.op ∧ m.op ≤ 32 then reckM s (m.op - 14) m.dst (s.reg m.a) m.n
  else if 37 ≤ m.op ∧ m.op ≤ 43 then (if goesM m.op (s.reg m.a) (s.reg m.b) then { s with calls := ⟨c.rt, m.n.toNat, c.fr⟩ :: r } else s)
  else if 44 ≤ m.op then speaksM m c r s
  else movesM m c r s
def nextM (cs : List (List Mac)) (c : Frm) : Mac := (cs.getD c.rt []).getD c.pc macZ0
def stepM (cs : List (List Mac)) (s : MS) : MS :=
  match s.calls with
  | [] => s
  | c :: r => doM (nextM cs c) ⟨c.rt, c.pc + 1, c.fr⟩ r { s with calls := ⟨c.rt, c.pc + 1, c.fr⟩ :: r, steps := s.steps + 1 }
/-- A run: at most so many steps more. -/
def runM (cs : List (List Mac)) : Nat → MS → MS
  | 0, s => s
  | f + 1, s => if s.over then s else runM cs f (stepM cs s)
/-- Which instructions are met on the way: of which routine, where. -/
def metM (cs : List (List Mac)) : Nat → MS → List (Nat × Nat)
  | 0, _ => []
  | f + 1, s => if s.over then [] else match s.calls with
    | [] => []
    | c :: _ => (c.rt, c.pc) :: metM cs f (stepM cs s)
def beginM (mem inp : List Int) : MS := ⟨List.replicate 16 0, mem, [⟨0, 0, frame0⟩], inp, 0, 0, [], 0, false⟩
/-- What a run comes to: its state, what main told, what was printed, its steps. -/
structure Out where
  st : Int
  val : Int
  out : List Int
  steps : Nat
def outM (s : MS) : Out := ⟨if s.over then s.st else 1, s.val, s.out, s.steps⟩

/-! ### What holds on the way -/
structure CodeOk (n : Nat) (c : List Mac) : Prop where
  some_ : 0 < c.length
  few : c.length ≤ 5000
  fine : ∀ m ∈ c, macF m c.length = 0
  far : ∀ m ∈ c, m.op = 44 → m.n < (n : Int)
  last : (c.getD (c.length - 1) macZ0).op = 37 ∨ (c.getD (c.length - 1) macZ0).op = 45
structure CodesOk (cs : List (List Mac)) : Prop where
  some_ : 0 < cs.length
  few : cs.length ≤ 40
  each : ∀ (k : Nat) c, cs[k]? = some c → CodeOk cs.length c
structure FrmOk (cs : List (List Mac)) (f : Frm) : Prop where
  rt : f.rt < cs.length
  pc : f.pc < (cs.getD f.rt []).length
  fr : f.fr.length = 120
structure MInv (cs : List (List Mac)) (s : MS) : Prop where
  regs : s.regs.length = 16
  mem : s.mem.length ≤ 200
  calls : s.over = false → s.calls ≠ []
  deep : s.calls.length ≤ 30
  each : ∀ f ∈ s.calls, FrmOk cs f
  out : s.out.length ≤ 200
/-- What an instruction that may be speaks of. -/
structure MacOk (m : Mac) (len : Nat) : Prop where
  op1 : 1 ≤ m.op
  op47 : m.op ≤ 47
  dst0 : 0 ≤ m.dst
  dst1 : m.dst ≤ 15
  a0 : 0 ≤ m.a
  a1 : m.a ≤ 15
  b0 : 0 ≤ m.b
  b1 : m.b ≤ 15
  jump : 37 ≤ m.op → m.op ≤ 43 → 0 ≤ m.n ∧ m.n < (len : Int)
  word : m.op = 35 ∨ m.op = 36 → 0 ≤ m.n ∧ m.n < 120
  call : m.op = 44 → 0 ≤ m.n
theorem field_ok {u : Bool} {r : Int} (h3 : fieldF u r ≠ 3) (h5 : fieldF u r ≠ 5) : 0 ≤ r ∧ r ≤ 15 := by
  unfold fieldF at h3 h5
  cases u
  · simp at h3 h5
    omega
  · simp at h3 h5
    omega
theorem macF_ok {m : Mac} {len : Nat} (h : macF m len = 0) : MacOk m len := by
  unfold macF at h
  cases hk : known m.op
  · rw [if_pos hk] at h
    omega
  rw [if_neg (by rw [hk]; simp)] at h
  simp only [] at h
  have hk' : 1 ≤ m.op ∧ m.op ≤ 47 := by simpa [known] using hk
  split at h
  · omega
  rename_i h3
  split at h
  · omega
  rename_i h5
  simp only [not_or] at h3 h5
  obtain ⟨d3, a3, b3, n3⟩ := h3
  obtain ⟨d5, a5, b5, n5⟩ := h5
  obtain ⟨e0, e1⟩ := field_ok d3 d5
  obtain ⟨f0, f1⟩ := field_ok a3 a5
  obtain ⟨g0, g1⟩ := field_ok b3 b5
  have hop : ∀ k : Int, m.op = k → (shapeOf m.op).n = (shapeOf k).n := fun k e => by rw [e]
  refine ⟨hk'.1, hk'.2, e0, e1, f0, f1, g0, g1, fun h1 h2 => ?_, fun ho => ?_, fun ho => ?_⟩
  · have hs : (shapeOf m.op).n = 2 := by
      have : m.op = 37 ∨ m.op = 38 ∨ m.op = 39 ∨ m.op = 40 ∨ m.op = 41 ∨ m.op = 42 ∨ m.op = 43 := by omega
      rcases this with e | e | e | e | e | e | e <;> rw [e] <;> decide +kernel
    rw [hs] at n3
    simp [numberF] at n3
    omega
  · have hs : (shapeOf m.op).n = 3 := by rcases ho with e | e <;> rw [e] <;> decide +kernel
    rw [hs] at n3
    simp [numberF] at n3
    omega
  · have hs : (shapeOf m.op).n = 4 := by rw [ho]; decide +kernel
    rw [hs] at n3
    simp [numberF] at n3
    omega
theorem nextM_mem {cs : List (List Mac)} {c : Frm} (h : FrmOk cs c) : nextM cs c ∈ cs.getD c.rt [] := by
  unfold nextM
  rw [List.getD_eq_getElem?_getD (l := cs.getD c.rt []), List.getElem?_eq_getElem h.pc]
  exact List.getElem_mem _
theorem codes_at {cs : List (List Mac)} (h : CodesOk cs) {k : Nat} (hk : k < cs.length) : CodeOk cs.length (cs.getD k []) := by
  have e : cs.getD k [] = cs[k] := by rw [List.getD_eq_getElem?_getD, List.getElem?_eq_getElem hk]; rfl
  rw [e]
  exact h.each k _ (List.getElem?_eq_getElem hk)
/-- Where it goes on, behind an instruction that is no MacJump and no MacReturn, one stands. -/
theorem pc_next {n : Nat} {l : List Mac} (h : CodeOk n l) {i : Nat} (hi : i < l.length) (hj : (l.getD i macZ0).op ≠ 37) (hr : (l.getD i macZ0).op ≠ 45) : i + 1 < l.length := by
  rcases Nat.lt_or_ge (i + 1) l.length with h1 | h1
  · exact h1
  · have e : i = l.length - 1 := by omega
    rw [e] at hj hr
    rcases h.last with h2 | h2
    · exact absurd h2 hj
    · exact absurd h2 hr
theorem MInv.put {cs : List (List Mac)} {s : MS} (h : MInv cs s) (r x : Int) : MInv cs (s.put r x) := ⟨by simp [MS.put, h.regs], h.mem, h.calls, h.deep, h.each, h.out⟩
theorem MInv.ends {cs : List (List Mac)} {s : MS} (h : MInv cs s) (k : Int) : MInv cs (s.ends k) := ⟨h.regs, h.mem, (fun e => by cases e), h.deep, h.each, h.out⟩
theorem MInv.step {cs : List (List Mac)} (hc : CodesOk cs) {s : MS} (h : MInv cs s) : MInv cs (stepM cs s) := by
  obtain ⟨regs, mem, calls, inp, st, val, out, steps, over⟩ := s
  cases calls with
  | nil => exact h
  | cons c r =>
    have hf : FrmOk cs c := h.each c (by simp)
    have hr : ∀ f ∈ r, FrmOk cs f := fun f hf => h.each f (by simp [hf])
    have hcode := codes_at hc hf.rt
    have hm := macF_ok (hcode.fine _ (nextM_mem hf))
    have hfar := hcode.far _ (nextM_mem hf)
    have hn := fun h1 h2 => pc_next hcode hf.pc (show (nextM cs c).op ≠ 37 from h1) (show (nextM cs c).op ≠ 45 from h2)
    have hd := h.deep
    simp only [stepM]
    generalize nextM cs c = m at *
    simp only [List.length_cons] at hd
    have h1 : m.op ≠ 37 → m.op ≠ 45 → MInv cs ⟨regs, mem, ⟨c.rt, c.pc + 1, c.fr⟩ :: r, inp, st, val, out, steps + 1, over⟩ := fun h1 h2 =>
      ⟨h.regs, h.mem, fun _ => by simp, by simpa using h.deep, (fun f hf' => by
        rcases List.mem_cons.1 hf' with e | e
        · rw [e]; exact ⟨hf.rt, hn h1 h2, hf.fr⟩
        · exact hr f e), h.out⟩
    unfold doM
    split
    · have h2 := h1 (by omega) (by omega)
      unfold reckM
      split
      · exact h2.ends 2
      · exact h2.put _ _
    split
    · have h2 := h1 (by omega) (by omega)
      unfold reckM
      split
      · exact h2.ends 2
      · exact h2.put _ _
    split
    · rename_i hj
      split
      · refine ⟨h.regs, h.mem, fun _ => by simp, by simpa using h.deep, fun f hf' => ?_, h.out⟩
        rcases List.mem_cons.1 hf' with e | e
        · rw [e]
          have := hm.jump hj.1 hj.2
          exact ⟨hf.rt, by show m.n.toNat < (cs.getD c.rt []).length; omega, hf.fr⟩
        · exact hr f e
      · rename_i hg
        exact h1 (fun e => hg (by rw [e]; simp [goesM])) (by omega)
    split
    · unfold speaksM
      split
      · rename_i ho
        have h2 := h1 (by omega) (by omega)
        split
        · exact h2.ends 4
        · refine ⟨h.regs, h.mem, fun _ => by simp, by simp only [List.length_cons]; omega, fun f hf' => ?_, h.out⟩
          rcases List.mem_cons.1 hf' with e | e
          · rw [e]
            have h3 := hm.call ho
            have h4 := hfar ho
            have h5 : m.n.toNat < cs.length := by omega
            exact ⟨h5, (codes_at hc h5).some_, by simp [frame0]⟩
          · exact h2.each f e
      split
      · split
        · exact ⟨h.regs, h.mem, (fun e => by cases e), by simp, (fun f hf' => by cases hf'), h.out⟩
        · exact ⟨h.regs, h.mem, fun _ => by assumption, by simp only []; omega, hr, h.out⟩
      split
      · have h2 := h1 (by omega) (by omega)
        split
        · exact h2.put _ _
        · have h3 := h2.put m.dst (by assumption)
          exact ⟨h3.regs, h3.mem, h3.calls, h3.deep, h3.each, h3.out⟩
      split
      · have h2 := h1 (by omega) (by omega)
        split
        · exact h2.ends 5
        · rename_i ho
          refine ⟨h2.regs, h2.mem, h2.calls, h2.deep, h2.each, ?_⟩
          have := h.out
          simp only [List.length_append, List.length_cons, List.length_nil] at ho this ⊢
          omega
      · exact h1 (by omega) (by omega)
    · have h2 := h1 (by omega) (by omega)
      unfold movesM
      split
      · exact h2.put _ _
      split
      · exact h2.put _ _
      split
      · exact h2.put _ _
      split
      · exact h2.put _ _
      split
      · split
        · exact h2.put _ _
        · exact h2.ends 3
      split
      · split
        · exact ⟨h2.regs, by simpa using h2.mem, h2.calls, h2.deep, h2.each, h2.out⟩
        · exact h2.ends 3
      split
      · exact h2.put _ _
      split
      · refine ⟨h2.regs, h2.mem, fun _ => by simp, by simpa using h2.deep, fun f hf' => ?_, h2.out⟩
        rcases List.mem_cons.1 hf' with e | e
        · rw [e]
          have := h2.each ⟨c.rt, c.pc + 1, c.fr⟩ (by simp)
          exact ⟨this.rt, this.pc, by simp [hf.fr]⟩
        · exact hr f e
      · exact h2
theorem MInv.begin {cs : List (List Mac)} (hc : CodesOk cs) {mem inp : List Int} (hm : mem.length ≤ 200) : MInv cs (beginM mem inp) :=
  ⟨by simp [beginM], hm, fun _ => by simp [beginM], by simp [beginM], (fun f hf => by
    have e : f = ⟨0, 0, frame0⟩ := by simpa [beginM] using hf
    subst e
    exact ⟨hc.some_, (codes_at hc hc.some_).some_, by simp [frame0]⟩), by simp [beginM]⟩
theorem runM_over {cs : List (List Mac)} {s : MS} (h : s.over = true) : ∀ f, runM cs f s = s
  | 0 => rfl
  | f + 1 => by rw [runM, if_pos h]
theorem runM_step {cs : List (List Mac)} {s : MS} (h : s.over = false) (f : Nat) : runM cs (f + 1) s = runM cs f (stepM cs s) := by rw [runM, if_neg (by rw [h]; simp)]
/-- A run goes on from where it was left: once more at its end. -/
theorem runM_more {cs : List (List Mac)} : ∀ (f : Nat) (s : MS), (runM cs f s).over = false → runM cs (f + 1) s = stepM cs (runM cs f s)
  | 0, s, h => by rw [runM] at h; rw [runM_step h]; rfl
  | f + 1, s, h => by
    cases ho : s.over
    · rw [runM_step ho] at h
      rw [runM_step ho, runM_more f _ h, runM_step ho]
    · rw [runM_over ho] at h
      rw [h] at ho
      cases ho
theorem runM_stop {cs : List (List Mac)} : ∀ (f g : Nat) (s : MS), (runM cs f s).over = true → f ≤ g → runM cs g s = runM cs f s
  | 0, g, s, h, _ => by rw [runM] at h; rw [runM_over h]; rfl
  | f + 1, 0, s, h, hg => by omega
  | f + 1, g + 1, s, h, hg => by
    cases ho : s.over
    · rw [runM_step ho] at h
      rw [runM_step ho, runM_step ho, runM_stop f g _ h (by omega)]
    · rw [runM_over ho, runM_over ho]
theorem metM_more {cs : List (List Mac)} : ∀ (f : Nat) (s : MS) (c : Frm) (r : List Frm), (runM cs f s).over = false → (runM cs f s).calls = c :: r → metM cs (f + 1) s = metM cs f s ++ [(c.rt, c.pc)]
  | 0, s, c, r, h, e => by
    rw [runM] at h e
    simp [metM, h, e]
  | f + 1, s, c, r, h, e => by
    cases ho : s.over
    · rw [runM_step ho] at h e
      have ih := metM_more f _ c r h e
      rw [metM, if_neg (by rw [ho]; simp)]
      rw [show metM cs (f + 1) s = (match s.calls with | [] => [] | c :: _ => (c.rt, c.pc) :: metM cs f (stepM cs s)) from by rw [metM, if_neg (by rw [ho]; simp)]]
      cases hcs : s.calls with
      | nil =>
        exfalso
        have hst : stepM cs s = s := by unfold stepM; rw [hcs]
        rw [hst] at e
        have : ∀ g, (runM cs g s).calls = [] := fun g => by
          induction g with
          | zero => exact hcs
          | succ g ih => rw [runM_step ho, hst]; exact ih
        rw [this] at e
        cases e
      | cons d r' =>
        simp only []
        rw [ih]
        rfl
    · rw [runM_over ho] at h
      rw [h] at ho
      cases ho
end Go.Proofs.YtcakodemngchpaaGreatDoor

/- What the machine reckons: core.Two, goes. -/
namespace Go.Proofs.YtcakodemngchpaaGreatDoor
open Go.RowKit
set_option linter.unusedSimpArgs false
set_option linter.unusedVariables false

set_option maxHeartbeats 1000000 in
theorem Two1_calls (b : Bool) (w : World) (R : Ending → World → Prop) (hR : ∀ w', Below w.heap.size w w' → R (.returned (.int .i64 (if b then 1 else 0))) w') :
    Calls Tryz.prog 127 #[.bool b] w R := by
  have HR := Lib.hid hR
  clear hR
  go_enter Tryz.func127, Tryz.ntmps127
  cases b <;> go_wp2 <;> exact HR.out _ bl0

theorem and63 (n : Int) : 0 ≤ bits .and .i64 n 63 ∧ bits .and .i64 n 63 < 64 := by
  have h127 : (BitVec.ofInt 64 63).toNat = 2 ^ 6 - 1 := by decide
  have key : (BitVec.ofInt 64 n &&& BitVec.ofInt 64 63).toNat = (n % ((2 ^ 64 : Nat) : Int)).toNat % 2 ^ 6 := by
    rw [BitVec.toNat_and, BitVec.toNat_ofInt, h127, Nat.and_two_pow_sub_one_eq_mod]
  have : bits .and .i64 n 63 = n % 64 := by
    show IntKind.i64.wrap ((BitVec.ofInt 64 n &&& BitVec.ofInt 64 63).toNat : Nat) = n % 64
    rw [key, IntKind.wrap_i64]
    omega
  rw [this]
  omega
def twoV (o : Option Int) : Value := match o with
  | none => .tuple #[.int .i64 0, .bool false]
  | some x => .tuple #[.int .i64 x, .bool true]
set_option maxHeartbeats 4000000 in
theorem Two_calls (op a b : Int) (h1 : 2 ≤ op) (h2 : op ≤ 15) (w : World) (R : Ending → World → Prop) (hR : ∀ w', Below w.heap.size w w' → R (.returned (twoV (twoI op a b))) w') :
    Calls Tryz.prog 119 #[.int .i64 op, .int .i64 a, .int .i64 b] w R := by
  have HR := Lib.hid hR
  clear hR
  have hop : op = 2 ∨ op = 3 ∨ op = 4 ∨ op = 5 ∨ op = 6 ∨ op = 7 ∨ op = 8 ∨ op = 9 ∨ op = 10 ∨ op = 11 ∨ op = 12 ∨ op = 13 ∨ op = 14 ∨ op = 15 := by omega
  clear h1 h2
  go_enter Tryz.func119, Tryz.ntmps119
  rcases hop with rfl | rfl | rfl | rfl | rfl | rfl | rfl | rfl | rfl | rfl | rfl | rfl | rfl | rfl
  · go_wp2
    exact HR.out _ bl0
  · go_wp2
    exact HR.out _ bl0
  · go_wp2
    exact HR.out _ bl0
  · by_cases hb : b = 0
    · subst hb
      go_wp2
      exact HR.out _ bl0
    · have hbb : (b == 0) = false := by simpa using hb
      have := HR.out
      simp only [twoI, hb, if_false] at this
      have HR := Lib.hid this
      clear this
      go_wp2
      exact HR.out _ bl0
  · by_cases hb : b = 0
    · subst hb
      go_wp2
      exact HR.out _ bl0
    · have hbb : (b == 0) = false := by simpa using hb
      have := HR.out
      simp only [twoI, hb, if_false] at this
      have HR := Lib.hid this
      clear this
      go_wp2
      exact HR.out _ bl0
  · go_wp2
    exact HR.out _ bl0
  · go_wp2
    exact HR.out _ bl0
  · go_wp2
    exact HR.out _ bl0
  · have hm := and63 b
    go_wp2
    exact HR.out _ bl0
  · have hm := and63 b
    go_wp2
    exact HR.out _ bl0
  · by_cases hd : a = b
    · have hx := HR.out
      simp only [twoI, hd, if_true, if_false] at hx
      have HR := Lib.hid hx
      clear hx
      have hd2 : decide (a = b) = true := decide_eq_true hd
      go_wp2_with fail
      refine Two1_calls _ _ _ (fun w1 hb1 => ?_)
      have Hf := Lib.hid (HR.out _ hb1)
      clear hb1
      go_wp2
      exact Hf.out
    · have hx := HR.out
      simp only [twoI, hd, if_true, if_false] at hx
      have HR := Lib.hid hx
      clear hx
      have hd2 : decide (a = b) = false := decide_eq_false hd
      go_wp2_with fail
      refine Two1_calls _ _ _ (fun w1 hb1 => ?_)
      have Hf := Lib.hid (HR.out _ hb1)
      clear hb1
      go_wp2
      exact Hf.out
  · by_cases hd : a = b
    · have hx := HR.out
      simp only [twoI, hd, if_true, if_false] at hx
      have HR := Lib.hid hx
      clear hx
      have hd2 : decide (a = b) = true := decide_eq_true hd
      go_wp2_with fail
      refine Two1_calls _ _ _ (fun w1 hb1 => ?_)
      have Hf := Lib.hid (HR.out _ hb1)
      clear hb1
      go_wp2
      exact Hf.out
    · have hx := HR.out
      simp only [twoI, hd, if_true, if_false] at hx
      have HR := Lib.hid hx
      clear hx
      have hd2 : decide (a = b) = false := decide_eq_false hd
      go_wp2_with fail
      refine Two1_calls _ _ _ (fun w1 hb1 => ?_)
      have Hf := Lib.hid (HR.out _ hb1)
      clear hb1
      go_wp2
      exact Hf.out
  · by_cases hd : a < b
    · have hx := HR.out
      simp only [twoI, hd, if_true, if_false] at hx
      have HR := Lib.hid hx
      clear hx
      have hd2 : decide (a < b) = true := decide_eq_true hd
      go_wp2_with fail
      refine Two1_calls _ _ _ (fun w1 hb1 => ?_)
      have Hf := Lib.hid (HR.out _ hb1)
      clear hb1
      go_wp2
      exact Hf.out
    · have hx := HR.out
      simp only [twoI, hd, if_true, if_false] at hx
      have HR := Lib.hid hx
      clear hx
      have hd2 : decide (a < b) = false := decide_eq_false hd
      go_wp2_with fail
      refine Two1_calls _ _ _ (fun w1 hb1 => ?_)
      have Hf := Lib.hid (HR.out _ hb1)
      clear hb1
      go_wp2
      exact Hf.out
  · by_cases hd : a ≤ b
    · have hx := HR.out
      simp only [twoI, hd, if_true, if_false] at hx
      have HR := Lib.hid hx
      clear hx
      have hd2 : decide (a ≤ b) = true := decide_eq_true hd
      go_wp2_with fail
      refine Two1_calls _ _ _ (fun w1 hb1 => ?_)
      have Hf := Lib.hid (HR.out _ hb1)
      clear hb1
      go_wp2
      exact Hf.out
    · have hx := HR.out
      simp only [twoI, hd, if_true, if_false] at hx
      have HR := Lib.hid hx
      clear hx
      have hd2 : decide (a ≤ b) = false := decide_eq_false hd
      go_wp2_with fail
      refine Two1_calls _ _ _ (fun w1 hb1 => ?_)
      have Hf := Lib.hid (HR.out _ hb1)
      clear hb1
      go_wp2
      exact Hf.out
set_option maxHeartbeats 4000000 in
theorem goes_calls (op a b : Int) (h1 : 37 ≤ op) (h2 : op ≤ 43) (w : World) (R : Ending → World → Prop) (hR : R (.returned (.bool (goesM op a b))) w) :
    Calls Tryz.prog 97 #[.int .i64 op, .int .i64 a, .int .i64 b] w R := by
  have HR := Lib.hid hR
  clear hR
  have hop : op = 37 ∨ op = 38 ∨ op = 39 ∨ op = 40 ∨ op = 41 ∨ op = 42 ∨ op = 43 := by omega
  clear h1 h2
  go_enter Tryz.func97, Tryz.ntmps97
  rcases hop with rfl | rfl | rfl | rfl | rfl | rfl | rfl
  all_goals
    have hx := HR.out
    simp [goesM] at hx
    have HR := Lib.hid hx
    clear hx
    go_wp2
    first | exact HR.out | simpa using HR.out
end Go.Proofs.YtcakodemngchpaaGreatDoor

/- The machine, as it lies in memory: its variable, its rows, its frames. -/
namespace Go.Proofs.YtcakodemngchpaaGreatDoor
open Go.RowKit
set_option linter.unusedSimpArgs false
set_option linter.unusedVariables false

def marr (s : MS) (vc vm vk vi vo : Value) : Array Value := (vc :: (s.regs.map (Value.int .i64) ++ [vm, vk, vi, .int .i64 s.st, .int .i64 s.val, vo, .int .i64 (s.steps : Int), .bool s.over])).toArray
def carr (f : Frm) : Array Value := (Value.int .i64 (f.rt : Int) :: Value.int .i64 (f.pc : Int) :: f.fr.map (Value.int .i64)).toArray
def ptrC (b : Nat) : List Value := [.pointer (some ⟨b, 0, none⟩)]

theorem row_type {w : World} {base : Nat} {e : TypeId} {size n : Nat} {v : Value} {xs : List Value} (h : w.ownsRow base e size v n xs) {g : Nat} (hg : v.ownBlock = some g) : ∃ cur, w.heap[g]? = some (.cells cur e (0, 0)) := by
  rcases h.2 with ⟨rfl, _⟩ | ⟨g', cap, cur, rfl, _, hh, _⟩
  · cases hg
  · obtain rfl : g' = g := Option.some.inj hg
    exact ⟨cur, hh⟩
theorem row_not {w : World} {base : Nat} {e : TypeId} {size n : Nat} {v : Value} {xs : List Value} (h : w.ownsRow base e size v n xs) {b : Nat} {A : Array Value} {T : TypeId} {fr : Nat × Nat} (hb : w.heap[b]? = some (.cells A T fr)) (ht : e ≠ T) : v.ownBlock ≠ some b := fun hg => by
  obtain ⟨cur, hc⟩ := row_type h hg
  rw [hb] at hc
  injection hc with hc
  injection hc with _ h2
  exact ht h2.symm

/-- The rows and the frames of a machine, from block bm on. -/
structure MRows (w : World) (bm : Nat) (mem out : List Int) (calls : List Frm) (vm vk vo : Value) (bs : List Nat) : Prop where
  mem : w.ownsRow bm 3 1 vm mem.length (mem.flatMap intCells)
  out : w.ownsRow bm 3 1 vo out.length (out.flatMap intCells)
  row : w.ownsRow bm 145 1 vk bs.length (bs.reverse.flatMap ptrC)
  len : bs.length = calls.length
  each : ∀ (i : Nat) f b, calls[i]? = some f → bs[i]? = some b → bm ≤ b ∧ w.heap[b]? = some (.cells (carr f) 148 (0, 0))
  once : bs.Nodup
  apart : ∀ k, vm.ownBlock = some k → vo.ownBlock ≠ some k

/-- A block of the machine's rows and frames. -/
def MOwn (vm vk vo : Value) (bs : List Nat) (k : Nat) : Prop := vm.ownBlock = some k ∨ vk.ownBlock = some k ∨ vo.ownBlock = some k ∨ k ∈ bs
theorem own_keep {w w' : World} {base : Nat} {e : TypeId} {size n : Nat} {v : Value} {xs : List Value} (h : w.ownsRow base e size v n xs) (hk : ∀ k, v.ownBlock = some k → k < w.heap.size → w'.heap[k]? = w.heap[k]?) : w'.ownsRow base e size v n xs := by
  obtain ⟨h1, h2⟩ := h
  refine ⟨h1, ?_⟩
  rcases h2 with h2 | ⟨g, cap, cur, hv, hb, hh, r⟩
  · exact .inl h2
  · have e : v.ownBlock = some g := by rw [hv]; rfl
    exact .inr ⟨g, cap, cur, hv, hb, (hk g e (blk_lt hh)).trans hh, r⟩
theorem MRows.keep {w w' : World} {bm : Nat} {mem out : List Int} {calls : List Frm} {vm vk vo : Value} {bs : List Nat} (h : MRows w bm mem out calls vm vk vo bs) (hk : ∀ k, MOwn vm vk vo bs k → k < w.heap.size → w'.heap[k]? = w.heap[k]?) : MRows w' bm mem out calls vm vk vo bs where
  mem := own_keep h.mem fun k e hl => hk k (.inl e) hl
  out := own_keep h.out fun k e hl => hk k (.inr (.inr (.inl e))) hl
  row := own_keep h.row fun k e hl => hk k (.inr (.inl e)) hl
  len := h.len
  each := fun i f b h1 h2 => by
    obtain ⟨h3, h4⟩ := h.each i f b h1 h2
    exact ⟨h3, (hk b (.inr (.inr (.inr (List.mem_iff_getElem?.2 ⟨i, h2⟩)))) (blk_lt h4)).trans h4⟩
  once := h.once
  apart := h.apart
theorem MRows.frame {w : World} {bm : Nat} {mem out : List Int} {calls : List Frm} {vm vk vo : Value} {bs : List Nat} (h : MRows w bm mem out calls vm vk vo bs) {b : Nat} (hb : b ∈ bs) : ∃ A, bm ≤ b ∧ w.heap[b]? = some (.cells A 148 (0, 0)) := by
  obtain ⟨i, hi, e⟩ := List.mem_iff_getElem.1 hb
  have hi' : i < calls.length := by rw [← h.len]; exact hi
  have := h.each i calls[i] b (List.getElem?_eq_getElem hi') (by rw [List.getElem?_eq_getElem hi, e])
  exact ⟨_, this⟩
theorem MRows.lt {w : World} {bm : Nat} {mem out : List Int} {calls : List Frm} {vm vk vo : Value} {bs : List Nat} (h : MRows w bm mem out calls vm vk vo bs) {k : Nat} (hk : MOwn vm vk vo bs k) : bm ≤ k ∧ k < w.heap.size := by
  rcases hk with e | e | e | e
  · exact h.mem.lt k e
  · exact h.row.lt k e
  · exact h.out.lt k e
  · obtain ⟨A, h1, h2⟩ := h.frame e
    exact ⟨h1, blk_lt h2⟩
/-- A block of another type is none of them. -/
theorem MRows.not {w : World} {bm : Nat} {mem out : List Int} {calls : List Frm} {vm vk vo : Value} {bs : List Nat} (h : MRows w bm mem out calls vm vk vo bs) {b : Nat} {A : Array Value} {T : TypeId} {fr : Nat × Nat} (hb : w.heap[b]? = some (.cells A T fr)) (h1 : T ≠ 3) (h2 : T ≠ 145) (h3 : T ≠ 148) : ¬ MOwn vm vk vo bs b := by
  rintro (e | e | e | e)
  · exact row_not h.mem hb (Ne.symm h1) e
  · exact row_not h.row hb (Ne.symm h2) e
  · exact row_not h.out hb (Ne.symm h1) e
  · obtain ⟨A', _, h4⟩ := h.frame e
    rw [hb] at h4
    injection h4 with h4
    injection h4 with _ h5
    exact h3 h5
theorem MRows.below {w w' : World} {bm B : Nat} {mem out : List Int} {calls : List Frm} {vm vk vo : Value} {bs : List Nat} (h : MRows w bm mem out calls vm vk vo bs) (hb : Below B w w') (hB : w.heap.size ≤ B) : MRows w' bm mem out calls vm vk vo bs := h.keep fun k _ hl => hb.block k (by omega)
theorem MRows.setOther {w : World} {bm : Nat} {mem out : List Int} {calls : List Frm} {vm vk vo : Value} {bs : List Nat} (h : MRows w bm mem out calls vm vk vo bs) {p : Addr} (hp : ¬ MOwn vm vk vo bs p.block) (u : Value) : MRows (w.setCell p u) bm mem out calls vm vk vo bs :=
  h.keep fun k hk _ => Below.heap_setCell _ _ _ _ (by rintro rfl; exact hp hk)

/-- The machine at block P; S: the elder blocks that its codes and its input read. -/
structure MRep (w : World) (S : Nat → Bool) (bm P : Nat) (cs : List (List Mac)) (s : MS) (vc vm vk vi vo : Value) (bs : List Nat) : Prop where
  blk : w.heap[P]? = some (.cells (marr s vc vm vk vi vo) 152 (0, 0))
  regs : s.regs.length = 16
  rows : MRows w bm s.mem s.out s.calls vm vk vo bs
  cod : rpMac.slice.SL (only w S) bm cs vc
  inp : rpInt.SL (only w S) bm s.inp vi
  safe : ∀ k, S k = true → k < bm
  low : bm ≤ P

theorem only_keep {w w' : World} {S : Nat → Bool} (h : ∀ k, S k = true → k < w.heap.size → w'.heap[k]? = w.heap[k]?) (p : Addr) (u : Value) (hc : (only w S).cell? p = some u) : (only w' S).cell? p = some u := by
  obtain ⟨h1, h2⟩ := only_cell hc
  rw [only_cell_of _ _ _ h2]
  exact (World.cell?_of_block (h _ h2 (World.block_lt_of_cell? w _ h1))).trans h1
theorem MRep.below {w w' : World} {S : Nat → Bool} {bm P B : Nat} {cs : List (List Mac)} {s : MS} {vc vm vk vi vo : Value} {bs : List Nat} (h : MRep w S bm P cs s vc vm vk vi vo bs) (hb : Below B w w') (hB : w.heap.size ≤ B) : MRep w' S bm P cs s vc vm vk vi vo bs where
  blk := (hb.block _ (by have := blk_lt h.blk; omega)).trans h.blk
  regs := h.regs
  rows := h.rows.below hb hB
  cod := h.cod.mono fun p u _ hc => only_keep (fun k _ hl => hb.block k (by omega)) p u hc
  inp := h.inp.mono fun p u _ hc => only_keep (fun k _ hl => hb.block k (by omega)) p u hc
  safe := h.safe
  low := h.low
theorem MRep.codes {w : World} {S : Nat → Bool} {bm P : Nat} {cs : List (List Mac)} {s : MS} {vc vm vk vi vo : Value} {bs : List Nat} (h : MRep w S bm P cs s vc vm vk vi vo bs) : rpMac.slice.SL w bm cs vc := h.cod.mono fun p u _ hc => (only_cell hc).1
theorem MRep.input {w : World} {S : Nat → Bool} {bm P : Nat} {cs : List (List Mac)} {s : MS} {vc vm vk vi vo : Value} {bs : List Nat} (h : MRep w S bm P cs s vc vm vk vi vo bs) : rpInt.SL w bm s.inp vi := h.inp.mono fun p u _ hc => (only_cell hc).1
theorem MRep.notP {w : World} {S : Nat → Bool} {bm P : Nat} {cs : List (List Mac)} {s : MS} {vc vm vk vi vo : Value} {bs : List Nat} (h : MRep w S bm P cs s vc vm vk vi vo bs) : ¬ MOwn vm vk vo bs P := h.rows.not h.blk (by decide) (by decide) (by decide)
theorem MRep.size {w : World} {S : Nat → Bool} {bm P : Nat} {cs : List (List Mac)} {s : MS} {vc vm vk vi vo : Value} {bs : List Nat} (h : MRep w S bm P cs s vc vm vk vi vo bs) : P < w.heap.size ∧ bm ≤ w.heap.size := by
  have := blk_lt h.blk
  have := h.low
  omega

/-- What the machine's variable holds. -/
structure MCells (w : World) (P : Nat) (s : MS) (vc vm vk vi vo : Value) : Prop where
  codes : w.cell? ⟨P, 0, none⟩ = some vc
  mem : w.cell? ⟨P, 17, none⟩ = some vm
  calls : w.cell? ⟨P, 18, none⟩ = some vk
  inp : w.cell? ⟨P, 19, none⟩ = some vi
  st : w.cell? ⟨P, 20, none⟩ = some (.int .i64 s.st)
  val : w.cell? ⟨P, 21, none⟩ = some (.int .i64 s.val)
  out : w.cell? ⟨P, 22, none⟩ = some vo
  steps : w.cell? ⟨P, 23, none⟩ = some (.int .i64 (s.steps : Int))
  over : w.cell? ⟨P, 24, none⟩ = some (.bool s.over)
  regs : ∀ k, k < 16 → w.cell? ⟨P, 1 + k, none⟩ = some (.int .i64 (s.regs.getD k 0))
  free : ∀ j, w.frozen? ⟨P, j, none⟩ = false
theorem marr_get {s : MS} {vc vm vk vi vo : Value} (h : s.regs.length = 16) : ∀ k, (marr s vc vm vk vi vo)[17 + k]? = [vm, vk, vi, .int .i64 s.st, .int .i64 s.val, vo, .int .i64 (s.steps : Int), .bool s.over][k]? := fun k => by
  unfold marr
  rw [List.getElem?_toArray, show 17 + k = (16 + k) + 1 from by omega, List.getElem?_cons_succ, List.getElem?_append_right (by simp [h]), List.length_map, h, Nat.add_sub_cancel_left]
theorem marr_reg {s : MS} {vc vm vk vi vo : Value} (h : s.regs.length = 16) {k : Nat} (hk : k < 16) : (marr s vc vm vk vi vo)[1 + k]? = some (.int .i64 (s.regs.getD k 0)) := by
  unfold marr
  rw [List.getElem?_toArray, Nat.add_comm 1 k, List.getElem?_cons_succ, List.getElem?_append_left (by simp; omega), List.getElem?_map, List.getElem?_eq_getElem (by omega), List.getD_eq_getElem?_getD, List.getElem?_eq_getElem (by omega)]
  rfl
theorem blk_cell {w : World} {b j : Nat} {A : Array Value} {T : TypeId} {fr : Nat × Nat} (h : w.heap[b]? = some (.cells A T fr)) : w.cell? ⟨b, j, none⟩ = A[j]? := by simp [World.cell?, h]
theorem MRep.cells {w : World} {S : Nat → Bool} {bm P : Nat} {cs : List (List Mac)} {s : MS} {vc vm vk vi vo : Value} {bs : List Nat} (h : MRep w S bm P cs s vc vm vk vi vo bs) : MCells w P s vc vm vk vi vo where
  codes := by rw [blk_cell h.blk]; rfl
  mem := by rw [blk_cell h.blk]; exact marr_get h.regs 0
  calls := by rw [blk_cell h.blk]; exact marr_get h.regs 1
  inp := by rw [blk_cell h.blk]; exact marr_get h.regs 2
  st := by rw [blk_cell h.blk]; exact marr_get h.regs 3
  val := by rw [blk_cell h.blk]; exact marr_get h.regs 4
  out := by rw [blk_cell h.blk]; exact marr_get h.regs 5
  steps := by rw [blk_cell h.blk]; exact marr_get h.regs 6
  over := by rw [blk_cell h.blk]; exact marr_get h.regs 7
  regs := fun k hk => by rw [blk_cell h.blk]; exact marr_reg h.regs hk
  free := fun j => by simp [World.frozen?, h.blk]

theorem marr_setReg {s : MS} {vc vm vk vi vo : Value} (h : s.regs.length = 16) {k : Nat} (hk : k < 16) (x : Int) : (marr s vc vm vk vi vo).setIfInBounds (1 + k) (.int .i64 x) = marr { s with regs := s.regs.set k x } vc vm vk vi vo := by
  unfold marr
  rw [List.setIfInBounds_toArray, Nat.add_comm 1 k, List.set_cons_succ, List.set_append_left _ _ (by simp; omega), List.map_set]
theorem marr_set {s : MS} {vc vm vk vi vo : Value} (h : s.regs.length = 16) (k : Nat) (u : Value) : (marr s vc vm vk vi vo).setIfInBounds (17 + k) u = (vc :: (s.regs.map (Value.int .i64) ++ [vm, vk, vi, .int .i64 s.st, .int .i64 s.val, vo, .int .i64 (s.steps : Int), .bool s.over].set k u)).toArray := by
  unfold marr
  rw [List.setIfInBounds_toArray, show 17 + k = (16 + k) + 1 from by omega, List.set_cons_succ, List.set_append_right _ _ (by simp [h]), List.length_map, h, Nat.add_sub_cancel_left]

/-- The variable is written, the rows stay. -/
theorem MRep.put {w : World} {S : Nat → Bool} {bm P : Nat} {cs : List (List Mac)} {s : MS} {vc vm vk vi vo : Value} {bs : List Nat} (h : MRep w S bm P cs s vc vm vk vi vo bs) {j : Nat} {u : Value} {s' : MS} {vi' : Value}
    (hm : s'.mem = s.mem) (ho : s'.out = s.out) (hc : s'.calls = s.calls) (hr : s'.regs.length = 16) (hi : rpInt.SL (only w S) bm s'.inp vi')
    (ha : (marr s vc vm vk vi vo).setIfInBounds j u = marr s' vc vm vk vi' vo) : MRep (w.setCell ⟨P, j, none⟩ u) S bm P cs s' vc vm vk vi' vo bs where
  blk := by rw [block_set h.blk, ha]
  regs := hr
  rows := by rw [hm, ho, hc]; exact h.rows.setOther h.notP u
  cod := h.cod.mono fun p u _ hc => only_keep (fun k hk _ => Below.heap_setCell _ _ _ _ (by have := h.safe k hk; have := h.low; show k ≠ P; omega)) p u hc
  inp := hi.mono fun p u _ hc => only_keep (fun k hk _ => Below.heap_setCell _ _ _ _ (by have := h.safe k hk; have := h.low; show k ≠ P; omega)) p u hc
  safe := h.safe
  low := h.low
theorem MRep.setReg {w : World} {S : Nat → Bool} {bm P : Nat} {cs : List (List Mac)} {s : MS} {vc vm vk vi vo : Value} {bs : List Nat} (h : MRep w S bm P cs s vc vm vk vi vo bs) {k : Nat} (hk : k < 16) (x : Int) :
    MRep (w.setCell ⟨P, 1 + k, none⟩ (.int .i64 x)) S bm P cs (s.put k x) vc vm vk vi vo bs :=
  h.put rfl rfl rfl (by simp [MS.put, h.regs]) h.inp (by rw [marr_setReg h.regs hk]; rfl)
theorem MRep.ends {w : World} {S : Nat → Bool} {bm P : Nat} {cs : List (List Mac)} {s : MS} {vc vm vk vi vo : Value} {bs : List Nat} (h : MRep w S bm P cs s vc vm vk vi vo bs) (k : Int) :
    MRep ((w.setCell ⟨P, 20, none⟩ (.int .i64 k)).setCell ⟨P, 24, none⟩ (.bool true)) S bm P cs (s.ends k) vc vm vk vi vo bs := by
  have h1 : MRep (w.setCell ⟨P, 20, none⟩ (.int .i64 k)) S bm P cs { s with st := k } vc vm vk vi vo bs := h.put rfl rfl rfl h.regs h.inp (by rw [marr_set h.regs 3]; rfl)
  exact h1.put rfl rfl rfl h.regs h1.inp (by rw [marr_set h1.regs 7]; rfl)

set_option maxHeartbeats 1000000 in
theorem ends_calls {w : World} {S : Nat → Bool} {bm P : Nat} {cs : List (List Mac)} {s : MS} {vc vm vk vi vo : Value} {bs : List Nat} (h : MRep w S bm P cs s vc vm vk vi vo bs) (k : Int) (R : Ending → World → Prop)
    (hR : ∀ w', Below bm w w' → MRep w' S bm P cs (s.ends k) vc vm vk vi vo bs → R (.returned (.tuple #[])) w') :
    Calls Tryz.prog 120 #[.pointer (some ⟨P, 0, none⟩), .int .i64 k] w R := by
  have C := h.cells
  have z := C.free
  have c1 := C.st
  have c2 := C.over
  have hl := h.size.1
  have hres := Lib.hid (hR _ (((Below.refl bm w).setCell (p := ⟨P, 20, none⟩) h.low _).setCell (p := ⟨P, 24, none⟩) h.low _) (h.ends k))
  clear hR h C
  go_enter Tryz.func120, Tryz.ntmps120
  go_wp2
  go_end0
  exact hres.out
theorem fits_iff (s : MS) (n : Int) : s.fits n = true ↔ 0 ≤ n ∧ n < (s.mem.length : Int) := by unfold MS.fits; simp
set_option maxHeartbeats 1000000 in
theorem place_calls {w : World} {S : Nat → Bool} {bm P : Nat} {cs : List (List Mac)} {s : MS} {vc vm vk vi vo : Value} {bs : List Nat} (h : MRep w S bm P cs s vc vm vk vi vo bs) (n : Int) (R : Ending → World → Prop)
    (hT : s.fits n = true → ∀ w', Below w.heap.size w w' → R (.returned (.bool true)) w')
    (hF : s.fits n = false → ∀ w', Below bm w w' → MRep w' S bm P cs (s.ends 3) vc vm vk vi vo bs → R (.returned (.bool false)) w') :
    Calls Tryz.prog 121 #[.pointer (some ⟨P, 0, none⟩), .int .i64 n] w R := by
  have C := h.cells
  have c1 := C.mem
  have hl := h.size.1
  obtain ⟨A, c, rfl⟩ := own_slice h.rows.mem
  have Hh := Lib.hid h
  have HT := Lib.hid hT
  have HF := Lib.hid hF
  clear hT hF h C
  by_cases h0 : n < 0
  · have hf : s.fits n = false := by
      cases hx : s.fits n
      · rfl
      · have := (fits_iff s n).1 hx; omega
    have HF2 := Lib.hid (HF.out hf)
    clear hf
    go_enter Tryz.func121, Tryz.ntmps121
    go_wp2_with fail
    refine ends_calls Hh.out 3 _ (fun w1 hb1 h1 => ?_)
    have Hf := Lib.hid (HF2.out w1 hb1 h1)
    clear hb1 h1
    go_wp2
    exact Hf.out
  · by_cases h1 : n < (s.mem.length : Int)
    · have HT2 := Lib.hid (HT.out ((fits_iff s n).2 ⟨by omega, h1⟩))
      go_enter Tryz.func121, Tryz.ntmps121
      go_wp2
      exact HT2.out _ bl0
    · have hf : s.fits n = false := by
        cases hx : s.fits n
        · rfl
        · have := (fits_iff s n).1 hx; omega
      have HF2 := Lib.hid (HF.out hf)
      clear hf
      go_enter Tryz.func121, Tryz.ntmps121
      go_wp2_with fail
      refine ends_calls Hh.out 3 _ (fun w1 hb1 h1 => ?_)
      have Hf := Lib.hid (HF2.out w1 hb1 h1)
      clear hb1 h1
      go_wp2
      exact Hf.out
set_option maxHeartbeats 2000000 in
theorem reckon_calls {w : World} {S : Nat → Bool} {bm P : Nat} {cs : List (List Mac)} {s : MS} {vc vm vk vi vo : Value} {bs : List Nat} (h : MRep w S bm P cs s vc vm vk vi vo bs) (op a b : Int) (k : Nat) (h1 : 5 ≤ op) (h2 : op ≤ 18) (hk : k < 16) (R : Ending → World → Prop)
    (hR : ∀ w', Below bm w w' → MRep w' S bm P cs (reckM s op k a b) vc vm vk vi vo bs → R (.returned (.tuple #[])) w') :
    Calls Tryz.prog 96 #[.pointer (some ⟨P, 0, none⟩), .int .i64 op, .int .i64 (k : Int), .int .i64 a, .int .i64 b] w R := by
  have Hh := Lib.hid h
  have HR := Lib.hid hR
  have hl := h.size.1
  clear hR h
  go_enter Tryz.func96, Tryz.ntmps96
  go_wp2_with fail
  have e3 : op - 5 + 2 = op - 3 := by omega
  refine Two_calls (op - 5 + 2) a b (by omega) (by omega) _ _ (fun w1 hb1 => ?_)
  rw [e3]
  have HR2 := HR.out
  unfold reckM at HR2
  have h1 := Hh.out.below hb1 (Nat.le_refl _)
  have Hb1 := Lib.hid (hb1.mono Hh.out.size.2)
  cases hx : twoI (op - 3) a b with
  | none =>
    rw [hx] at HR2
    have HR3 := Lib.hid HR2
    have H1 := Lib.hid h1
    clear HR2 h1 hb1 hx
    simp only [twoV]
    go_wp2_with fail
    refine ends_calls H1.out 2 _ (fun w2 hb2 h2 => ?_)
    have Hf := Lib.hid (HR3.out w2 (Hb1.out.trans hb2) h2)
    clear hb2 h2
    go_wp2
    go_end0
    exact Hf.out
  | some x =>
    rw [hx] at HR2
    have C := h1.cells
    have z := C.free
    have c1 := C.regs k hk
    have hl1 := h1.size.1
    have Hf := Lib.hid (HR2 _ (Hb1.out.setCell (p := ⟨P, 1 + k, none⟩) h1.low _) (h1.setReg hk x))
    clear HR2 h1 hb1 hx C
    simp only [twoV]
    go_wp2
    go_end0
    exact Hf.out
end Go.Proofs.YtcakodemngchpaaGreatDoor

/- The machine: instructions that move words. -/
namespace Go.Proofs.YtcakodemngchpaaGreatDoor
open Go.RowKit
set_option linter.unusedSimpArgs false
set_option linter.unusedVariables false

theorem carr_get {c : Frm} (k : Nat) : (carr c)[2 + k]? = (c.fr[k]?).map (Value.int .i64) := by
  unfold carr
  rw [List.getElem?_toArray, show 2 + k = k + 1 + 1 from by omega, List.getElem?_cons_succ, List.getElem?_cons_succ, List.getElem?_map]
theorem carr_set {c : Frm} (k : Nat) (x : Int) : (carr c).setIfInBounds (2 + k) (.int .i64 x) = carr ⟨c.rt, c.pc, c.fr.set k x⟩ := by
  unfold carr
  rw [List.setIfInBounds_toArray, show 2 + k = k + 1 + 1 from by omega, List.set_cons_succ, List.set_cons_succ, List.map_set]
theorem MRep.drew {w : World} {S : Nat → Bool} {bm P : Nat} {cs : List (List Mac)} {s : MS} {vc vm vk vi vo : Value} {bs : List Nat} (h : MRep w S bm P cs s vc vm vk vi vo bs) : MRep w.drew S bm P cs s vc vm vk vi vo bs :=
  h.below (Below.refl w.heap.size w).drew (Nat.le_refl _)
/-- What the frame of the routine that is under way holds. -/
structure CCells (w : World) (bm b : Nat) (c : Frm) : Prop where
  rt : w.cell? ⟨b, 0, none⟩ = some (.int .i64 (c.rt : Int))
  pc : w.cell? ⟨b, 1, none⟩ = some (.int .i64 (c.pc : Int))
  word : ∀ k, k < c.fr.length → w.cell? ⟨b, 2 + k, none⟩ = some (.int .i64 (c.fr.getD k 0))
  free : ∀ j, w.frozen? ⟨b, j, none⟩ = false
  lt : b < w.heap.size
  low : bm ≤ b
theorem MRep.top {w : World} {S : Nat → Bool} {bm P b : Nat} {cs : List (List Mac)} {s : MS} {vc vm vk vi vo : Value} {bs : List Nat} {c : Frm} {r : List Frm} (h : MRep w S bm P cs s vc vm vk vi vo (b :: bs)) (hc : s.calls = c :: r) : CCells w bm b c := by
  obtain ⟨h1, h2⟩ := h.rows.each 0 c b (by rw [hc]; rfl) rfl
  refine ⟨by rw [blk_cell h2]; rfl, by rw [blk_cell h2]; rfl, fun k hk => ?_, fun j => by simp [World.frozen?, h2], blk_lt h2, h1⟩
  rw [blk_cell h2, carr_get, List.getElem?_eq_getElem hk, List.getD_eq_getElem?_getD, List.getElem?_eq_getElem hk]
  rfl
theorem MRep.notFrame {w : World} {S : Nat → Bool} {bm P b : Nat} {cs : List (List Mac)} {s : MS} {vc vm vk vi vo : Value} {bs : List Nat} (h : MRep w S bm P cs s vc vm vk vi vo bs) (hb : b ∈ bs) : b ≠ P ∧ vm.ownBlock ≠ some b ∧ vk.ownBlock ≠ some b ∧ vo.ownBlock ≠ some b := by
  obtain ⟨A, h1, h2⟩ := h.rows.frame hb
  refine ⟨?_, row_not h.rows.mem h2 (by decide), row_not h.rows.row h2 (by decide), row_not h.rows.out h2 (by decide)⟩
  rintro rfl
  rw [h.blk] at h2
  injection h2 with h2
  injection h2 with _ h3
  exact absurd h3 (by decide)
theorem MRep.elder {w w' : World} {S : Nat → Bool} {bm P : Nat} {cs : List (List Mac)} {s : MS} {vc vm vk vi vo : Value} {bs : List Nat} (h : MRep w S bm P cs s vc vm vk vi vo bs) (hk : ∀ k, k < bm → w'.heap[k]? = w.heap[k]?) : rpMac.slice.SL (only w' S) bm cs vc ∧ rpInt.SL (only w' S) bm s.inp vi :=
  ⟨h.cod.mono fun p u _ hc => only_keep (fun k h1 _ => hk k (h.safe k h1)) p u hc, h.inp.mono fun p u _ hc => only_keep (fun k h1 _ => hk k (h.safe k h1)) p u hc⟩
/-- The frame of the routine that is under way is written. -/
theorem MRep.setTop {w : World} {S : Nat → Bool} {bm P b : Nat} {cs : List (List Mac)} {s : MS} {vc vm vk vi vo : Value} {bs : List Nat} {c c' : Frm} {r : List Frm} (h : MRep w S bm P cs s vc vm vk vi vo (b :: bs)) (hc : s.calls = c :: r) {j : Nat} {u : Value} (ha : (carr c).setIfInBounds j u = carr c') :
    MRep (w.setCell ⟨b, j, none⟩ u) S bm P cs { s with calls := c' :: r } vc vm vk vi vo (b :: bs) := by
  obtain ⟨h1, h2⟩ := h.rows.each 0 c b (by rw [hc]; rfl) rfl
  obtain ⟨n1, n2, n3, n4⟩ := h.notFrame (b := b) (by simp)
  have hnb : b ∉ bs := (List.nodup_cons.1 h.rows.once).1
  obtain ⟨k1, k2⟩ := h.elder (w' := w.setCell ⟨b, j, none⟩ u) (fun k hk => Below.heap_setCell _ _ _ _ (by show k ≠ b; omega))
  refine ⟨(Below.heap_setCell _ _ _ _ (by show P ≠ b; exact fun e => n1 e.symm)).trans h.blk, h.regs, ⟨?_, ?_, ?_, ?_, ?_, h.rows.once, h.rows.apart⟩, k1, k2, h.safe, h.low⟩
  · exact own_setCell_other h.rows.mem (p := ⟨b, j, none⟩) n2 u
  · exact own_setCell_other h.rows.out (p := ⟨b, j, none⟩) n4 u
  · exact own_setCell_other h.rows.row (p := ⟨b, j, none⟩) n3 u
  · rw [h.rows.len, hc]; rfl
  · intro i f b' h3 h4
    cases i with
    | zero =>
      simp at h3 h4
      subst h3 h4
      exact ⟨h1, by rw [block_set h2, ha]⟩
    | succ i =>
      rw [List.getElem?_cons_succ] at h3
      have h4' := h4
      rw [List.getElem?_cons_succ] at h4'
      obtain ⟨h5, h6⟩ := h.rows.each (i + 1) f b' (by rw [hc, List.getElem?_cons_succ]; exact h3) h4
      refine ⟨h5, (Below.heap_setCell _ _ _ _ ?_).trans h6⟩
      show b' ≠ b
      rintro rfl
      exact hnb (List.mem_iff_getElem?.2 ⟨i, h4'⟩)
/-- A word of the memory is written. -/
theorem MRep.setMem {w : World} {S : Nat → Bool} {bm P g n cap : Nat} {cs : List (List Mac)} {s : MS} {vc vk vi vo : Value} {bs : List Nat} (h : MRep w S bm P cs s vc (.slice (some ⟨g, 0, none⟩) n cap) vk vi vo bs) {k : Nat} (hk : k < s.mem.length) (x : Int) :
    MRep (w.setCell ⟨g, k, none⟩ (.int .i64 x)) S bm P cs { s with mem := s.mem.set k x } vc (.slice (some ⟨g, 0, none⟩) n cap) vk vi vo bs := by
  have hm := h.rows.mem
  obtain ⟨A, c, e⟩ := own_slice hm
  injection e with _ e _
  subst e
  obtain ⟨g0, _⟩ := hm.lt g rfl
  have nP : g ≠ P := fun e => h.notP (.inl (by rw [← e]; rfl))
  have no : vo.ownBlock ≠ some g := h.rows.apart g rfl
  obtain ⟨cur, hcur⟩ := row_type hm (g := g) rfl
  have nk : vk.ownBlock ≠ some g := row_not h.rows.row hcur (by decide)
  obtain ⟨k1, k2⟩ := h.elder (w' := w.setCell ⟨g, k, none⟩ (.int .i64 x)) (fun j hj => Below.heap_setCell _ _ _ _ (by show j ≠ g; omega))
  refine ⟨(Below.heap_setCell _ _ _ _ (by show P ≠ g; exact fun e => nP e.symm)).trans h.blk, h.regs, ⟨?_, ?_, ?_, h.rows.len, ?_, h.rows.once, ?_⟩, k1, k2, h.safe, h.low⟩
  · have := own_setCells (vs := [.int .i64 x]) (o := k) (m := s.mem.length) hm (by simp; omega) (Nat.le_refl _) ((s.mem.set k x).flatMap intCells) (by
      have hf := flat_set intCells 1 (fun _ => rfl) s.mem k x hk
      simp only [Nat.mul_one, intCells, List.length_cons, List.length_nil] at hf ⊢
      rw [hf]
      apply List.take_of_length_le
      rw [flat_length intCells 1 (fun _ => rfl)]
      simp)
    rw [show (s.mem.set k x).length = s.mem.length from List.length_set]
    exact this
  · exact own_setCell_other h.rows.out (p := ⟨g, k, none⟩) no _
  · exact own_setCell_other h.rows.row (p := ⟨g, k, none⟩) nk _
  · intro i f b' h3 h4
    obtain ⟨h5, h6⟩ := h.rows.each i f b' h3 h4
    refine ⟨h5, (Below.heap_setCell _ _ _ _ ?_).trans h6⟩
    show b' ≠ g
    rintro rfl
    exact (h.notFrame (List.mem_iff_getElem?.2 ⟨i, h4⟩)).2.1 rfl
  · exact h.rows.apart

theorem moves33 (d a b n : Int) (c : Frm) (r : List Frm) (s : MS) : movesM ⟨33, d, a, b, n⟩ c r s = if s.fits (wrap64 (s.reg a + n)) = true then s.put d (s.mem.getD (wrap64 (s.reg a + n)).toNat 0) else s.ends 3 := rfl
theorem moves34 (d a b n : Int) (c : Frm) (r : List Frm) (s : MS) : movesM ⟨34, d, a, b, n⟩ c r s = if s.fits (wrap64 (s.reg a + n)) = true then { s with mem := s.mem.set (wrap64 (s.reg a + n)).toNat (s.reg b) } else s.ends 3 := rfl
theorem row_cell {w : World} {bm : Nat} {v : Value} {xs : List Int} (h : w.ownsRow bm 3 1 v xs.length (xs.flatMap intCells)) {k : Nat} (hk : k < xs.length) : ∃ g cap, v = .slice (some ⟨g, 0, none⟩) xs.length cap ∧ bm ≤ g ∧ g < w.heap.size ∧ xs.length ≤ cap ∧ w.cell? ⟨g, k, none⟩ = some (.int .i64 (xs.getD k 0)) ∧ w.frozen? ⟨g, k, none⟩ = false := by
  obtain ⟨g, cap, rfl, h1, h2, h3, _⟩ := own_some h (by omega)
  obtain ⟨b', off', hA, _, hc⟩ := (SLint_own h (Nat.le_refl _)).int_at hk
  injection hA with hA
  injection hA with e1 e2 _
  subst e1 e2
  refine ⟨_, _, rfl, h1, h2, h3, ?_, (own_there h k (by omega)).2⟩
  rw [← hc, Nat.zero_add]

set_option maxHeartbeats 8000000 in
theorem moves_calls {w : World} {S : Nat → Bool} {bm P b : Nat} {cs : List (List Mac)} {s : MS} {vc vm vk vi vo : Value} {bs : List Nat} {c : Frm} {r : List Frm} (h : MRep w S bm P cs s vc vm vk vi vo (b :: bs)) (hc : s.calls = c :: r) (hfr : c.fr.length = 120)
    (op n : Int) (kd ka kb : Nat) (hd : kd < 16) (ha : ka < 16) (hb : kb < 16) (hop : op = 1 ∨ op = 2 ∨ op = 3 ∨ op = 4 ∨ op = 33 ∨ op = 34 ∨ op = 35 ∨ op = 36) (hw : op = 35 ∨ op = 36 → 0 ≤ n ∧ n < 120) (R : Ending → World → Prop)
    (hR : ∀ w', Below bm w w' → MRep w' S bm P cs (movesM ⟨op, kd, ka, kb, n⟩ c r s) vc vm vk vi vo (b :: bs) → R (.returned (.tuple #[])) w') :
    Calls Tryz.prog 99 #[.pointer (some ⟨P, 0, none⟩), .agg #[.int .i64 op, .int .i64 (kd : Int), .int .i64 (ka : Int), .int .i64 (kb : Int), .int .i64 n], .pointer (some ⟨b, 0, none⟩)] w R := by
  obtain ⟨W0, hW0⟩ : ∃ W0, W0 = w.alloc (Obj.cells #[.int .i64 op, .int .i64 (kd : Int), .int .i64 (ka : Int), .int .i64 (kb : Int), .int .i64 n] 54) := ⟨_, rfl⟩
  have hb0 : Below w.heap.size w W0 := by subst hW0; exact bl0
  have hM : W0.heap[w.heap.size]? = some (.cells #[.int .i64 op, .int .i64 (kd : Int), .int .i64 (ka : Int), .int .i64 (kb : Int), .int .i64 n] 54 (0, 0)) := by subst hW0; exact heap_alloc_new _ _
  have h0 := h.below hb0 (Nat.le_refl _)
  have hbw := hb0.mono h.size.2
  have HR : Hid (∀ w', Below bm W0 w' → MRep w' S bm P cs (movesM ⟨op, kd, ka, kb, n⟩ c r s) vc vm vk vi vo (b :: bs) → R (.returned (.tuple #[])) w') := Lib.hid fun w' h1 h2 => hR w' (hbw.trans h1) h2
  have HW0 := Lib.hid hW0.symm
  have HM := Lib.hid hM
  have m0 : W0.cell? ⟨w.heap.size, 0, none⟩ = some (.int .i64 op) := by rw [blk_cell hM]; rfl
  have m1 : W0.cell? ⟨w.heap.size, 1, none⟩ = some (.int .i64 (kd : Int)) := by rw [blk_cell hM]; rfl
  have m2 : W0.cell? ⟨w.heap.size, 2, none⟩ = some (.int .i64 (ka : Int)) := by rw [blk_cell hM]; rfl
  have m3 : W0.cell? ⟨w.heap.size, 3, none⟩ = some (.int .i64 (kb : Int)) := by rw [blk_cell hM]; rfl
  have m4 : W0.cell? ⟨w.heap.size, 4, none⟩ = some (.int .i64 n) := by rw [blk_cell hM]; rfl
  have hlM : w.heap.size < W0.heap.size := blk_lt hM
  have hlP : P < W0.heap.size := h0.size.1
  have C := h0.cells
  have T := h0.top hc
  have hlb := T.lt
  have z := C.free
  have zb := T.free
  have cm := C.mem
  have cd := C.regs kd hd
  have ca0 := C.regs ka ha
  have cb0 := C.regs kb hb
  obtain ⟨ra, hra⟩ : ∃ x, s.regs.getD ka 0 = x := ⟨_, rfl⟩
  obtain ⟨rb, hrb⟩ : ∃ x, s.regs.getD kb 0 = x := ⟨_, rfl⟩
  have ca : W0.cell? ⟨P, 1 + ka, none⟩ = some (.int .i64 ra) := by rw [ca0, hra]
  have cb : W0.cell? ⟨P, 1 + kb, none⟩ = some (.int .i64 rb) := by rw [cb0, hrb]
  have Hra := Lib.hid hra
  have Hrb := Lib.hid hrb
  clear ca0 cb0 hra hrb
  have i1 : (kd : Int) < 16 := by omega
  have i2 : (ka : Int) < 16 := by omega
  have i3 : (kb : Int) < 16 := by omega
  have H0 := Lib.hid h0
  clear hW0 hM h h0 hR hbw hb0 C
  go_enter Tryz.func99, Tryz.ntmps99
  go_upto_region 1 with fail
  rw [HW0.out]
  rcases hop with rfl | rfl | rfl | rfl | rfl | rfl | rfl | rfl
  · have hmv : movesM ⟨1, kd, ka, kb, n⟩ c r s = s.put kd (n) := rfl
    have Hf := Lib.hid (HR.out _ ((Below.refl bm W0).setCell (p := ⟨P, 1 + kd, none⟩) H0.out.low _).drew (by rw [hmv]; exact (H0.out.setReg hd (n)).drew))
    clear hmv
    go_wp2
    go_region
    all_goals
      go_wp2
      go_end0
      exact Hf.out
  · have hmv : movesM ⟨2, kd, ka, kb, n⟩ c r s = s.put kd (ra) := by rw [← Hra.out]; rfl
    have Hf := Lib.hid (HR.out _ ((Below.refl bm W0).setCell (p := ⟨P, 1 + kd, none⟩) H0.out.low _).drew (by rw [hmv]; exact (H0.out.setReg hd (ra)).drew))
    clear hmv
    go_wp2
    go_region
    all_goals
      go_wp2
      go_end0
      exact Hf.out
  · have hmv : movesM ⟨3, kd, ka, kb, n⟩ c r s = s.put kd (wrap64 (-ra)) := by rw [← Hra.out]; rfl
    have Hf := Lib.hid (HR.out _ ((Below.refl bm W0).setCell (p := ⟨P, 1 + kd, none⟩) H0.out.low _).drew (by rw [hmv]; exact (H0.out.setReg hd (wrap64 (-ra))).drew))
    clear hmv
    go_wp2
    go_region
    all_goals
      go_wp2
      go_end0
      exact Hf.out
  · have hmv : movesM ⟨4, kd, ka, kb, n⟩ c r s = s.put kd (bits .xor .i64 (-1) ra) := by rw [← Hra.out]; rfl
    have Hf := Lib.hid (HR.out _ ((Below.refl bm W0).setCell (p := ⟨P, 1 + kd, none⟩) H0.out.low _).drew (by rw [hmv]; exact (H0.out.setReg hd (bits .xor .i64 (-1) ra)).drew))
    clear hmv
    go_wp2
    go_region
    all_goals
      go_wp2
      go_end0
      exact Hf.out
  · have hT : s.fits (wrap64 (ra + n)) = true → movesM ⟨33, kd, ka, kb, n⟩ c r s = s.put kd (s.mem.getD (wrap64 (ra + n)).toNat 0) := fun h => by rw [moves33, show s.reg (ka : Int) = ra from Hra.out, if_pos h]
    have hF : s.fits (wrap64 (ra + n)) = false → movesM ⟨33, kd, ka, kb, n⟩ c r s = s.ends 3 := fun h => by rw [moves33, show s.reg (ka : Int) = ra from Hra.out, if_neg (by rw [h]; simp)]
    generalize hq : wrap64 (ra + n) = q at *
    have HT := Lib.hid hT
    have HF := Lib.hid hF
    have Hq := Lib.hid hq
    clear hT hF hq
    go_wp2
    go_quiet (fail)
    rw [Hq.out]
    have h1 : MRep (W0.drewN nq) S bm P cs s vc vm vk vi vo (b :: bs) := H0.out.below (below_drewN (Below.refl W0.heap.size W0) nq) (Nat.le_refl _)
    have hbn := Lib.hid (below_drewN (Below.refl bm W0) nq)
    have H1 := Lib.hid h1
    clear h1
    go_wp2_with fail
    refine place_calls H1.out q _ (fun hf w1 hb1 => ?_) (fun hf w1 hb1 h1 => ?_)
    · have hmv := HT.out hf
      obtain ⟨q0, q1⟩ := (fits_iff s q).1 hf
      obtain ⟨k, rfl⟩ := Int.eq_ofNat_of_zero_le q0
      have hk : k < s.mem.length := by omega
      have h2 := H1.out.below hb1 (Nat.le_refl _)
      obtain ⟨g, cap, rfl, g0, g1, g2, gc, gf⟩ := row_cell h2.rows.mem hk
      have hb2 := hbn.out.trans (hb1.mono H1.out.size.2)
      have C2 := h2.cells
      have z2 := C2.free
      have cm2 := C2.mem
      have cd2 := C2.regs kd hd
      have m1' := (hb1.cell (p := ⟨w.heap.size, 1, none⟩) hlM).trans m1
      have hlM2 : w.heap.size < w1.heap.size := Nat.lt_of_lt_of_le hlM hb1.size
      have hlP2 := h2.size.1
      have hln : (k : Int) < (s.mem.length : Int) := by omega
      generalize hx : s.mem.getD k 0 = x at *
      have hmv2 : movesM ⟨33, kd, ka, kb, n⟩ c r s = s.put kd x := by rw [hmv, ← hx]; rfl
      have Hf := Lib.hid (HR.out _ (hb2.setCell (p := ⟨P, 1 + kd, none⟩) h2.low _).drew (by rw [hmv2]; exact (h2.setReg hd x).drew))
      clear hmv hmv2 hx hf C2 h2 hb2 hb1 z cm cd ca cb m0 m1 m2 m3 m4
      go_wp2
      go_region
      all_goals
        go_wp2
        go_end0
        exact Hf.out
    · have Hf := Lib.hid (HR.out _ (hbn.out.trans hb1) (by rw [HF.out hf]; exact h1))
      clear hb1 h1 hf
      go_wp2
      go_end0
      exact Hf.out
  · have hT : s.fits (wrap64 (ra + n)) = true → movesM ⟨34, kd, ka, kb, n⟩ c r s = { s with mem := s.mem.set (wrap64 (ra + n)).toNat rb } := fun h => by rw [moves34, show s.reg (ka : Int) = ra from Hra.out, show s.reg (kb : Int) = rb from Hrb.out, if_pos h]
    have hF : s.fits (wrap64 (ra + n)) = false → movesM ⟨34, kd, ka, kb, n⟩ c r s = s.ends 3 := fun h => by rw [moves34, show s.reg (ka : Int) = ra from Hra.out, if_neg (by rw [h]; simp)]
    generalize hq : wrap64 (ra + n) = q at *
    have HT := Lib.hid hT
    have HF := Lib.hid hF
    have Hq := Lib.hid hq
    clear hT hF hq
    go_wp2
    go_quiet (fail)
    rw [Hq.out]
    have h1 : MRep (W0.drewN nq) S bm P cs s vc vm vk vi vo (b :: bs) := H0.out.below (below_drewN (Below.refl W0.heap.size W0) nq) (Nat.le_refl _)
    have hbn := Lib.hid (below_drewN (Below.refl bm W0) nq)
    have H1 := Lib.hid h1
    clear h1
    go_wp2_with fail
    refine place_calls H1.out q _ (fun hf w1 hb1 => ?_) (fun hf w1 hb1 h1 => ?_)
    · have hmv := HT.out hf
      obtain ⟨q0, q1⟩ := (fits_iff s q).1 hf
      obtain ⟨k, rfl⟩ := Int.eq_ofNat_of_zero_le q0
      have hk : k < s.mem.length := by omega
      have h2 := H1.out.below hb1 (Nat.le_refl _)
      obtain ⟨g, cap, rfl, g0, g1, g2, gc, gf⟩ := row_cell h2.rows.mem hk
      have hb2 := hbn.out.trans (hb1.mono H1.out.size.2)
      have C2 := h2.cells
      have z2 := C2.free
      have cm2 := C2.mem
      have cb2 : w1.cell? ⟨P, 1 + kb, none⟩ = some (.int .i64 rb) := by rw [C2.regs kb hb, Hrb.out]
      have m3' := (hb1.cell (p := ⟨w.heap.size, 3, none⟩) hlM).trans m3
      have hlM2 : w.heap.size < w1.heap.size := Nat.lt_of_lt_of_le hlM hb1.size
      have hlP2 := h2.size.1
      have hln : (k : Int) < (s.mem.length : Int) := by omega
      have Hf := Lib.hid (HR.out _ (hb2.setCell (p := ⟨g, k, none⟩) g0 _).drew (by rw [hmv]; exact (h2.setMem hk rb).drew))
      clear hmv hf C2 h2 hb2 hb1 z cm cd ca cb m0 m1 m2 m3 m4
      go_wp2
      go_region
      all_goals
        go_wp2
        go_end0
        exact Hf.out
    · have Hf := Lib.hid (HR.out _ (hbn.out.trans hb1) (by rw [HF.out hf]; exact h1))
      clear hb1 h1 hf
      go_wp2
      go_end0
      exact Hf.out
  · obtain ⟨w0, w1⟩ := hw (.inl rfl)
    obtain ⟨kn, rfl⟩ := Int.eq_ofNat_of_zero_le w0
    have hkn : kn < 120 := by omega
    have hkn2 : kn < c.fr.length := by omega
    have cf := T.word kn hkn2
    generalize hx : c.fr.getD kn 0 = x at *
    have hmv : movesM ⟨35, kd, ka, kb, kn⟩ c r s = s.put kd x := by rw [← hx]; rfl
    have Hf := Lib.hid (HR.out _ ((Below.refl bm W0).setCell (p := ⟨P, 1 + kd, none⟩) H0.out.low _).drew (by rw [hmv]; exact (H0.out.setReg hd x).drew))
    clear hmv hx hkn2
    go_wp2
    go_region
    all_goals
      go_wp2
      go_end0
      exact Hf.out
  · obtain ⟨w0, w1⟩ := hw (.inr rfl)
    obtain ⟨kn, rfl⟩ := Int.eq_ofNat_of_zero_le w0
    have hkn : kn < 120 := by omega
    have hkn2 : kn < c.fr.length := by omega
    have cf := T.word kn hkn2
    have hmv : movesM ⟨36, kd, ka, kb, kn⟩ c r s = { s with calls := ⟨c.rt, c.pc, c.fr.set kn ra⟩ :: r } := by rw [← Hra.out]; rfl
    have Hf := Lib.hid (HR.out _ ((Below.refl bm W0).setCell (p := ⟨b, 2 + kn, none⟩) T.low _).drew (by rw [hmv]; exact (H0.out.setTop hc (carr_set kn ra)).drew))
    clear hmv hkn2
    go_wp2
    go_region
    all_goals
      go_wp2
      go_end0
      exact Hf.out
end Go.Proofs.YtcakodemngchpaaGreatDoor
