/- Runs of one routine that calls none, plainly: an instruction's doing; ends. -/
import Derived.Test.YtkcmijnaheapdaaDoorPeepP
namespace Go.Proofs.YtkcmijnaheapdaaDoor
open Go.RowKit
set_option linter.unusedSimpArgs false
set_option linter.unusedVariables false

structure Cfg where
  regs : List Int
  fr : List Int
  mem : List Int
  inp : List Int
  out : List Int
inductive Ctl where
  | fall : Ctl
  | jump : Nat → Ctl
  | stop : Int → Int → Ctl
def Cfg.reg (c : Cfg) (r : Int) : Int := c.regs.getD r.toNat 0
def Cfg.put (c : Cfg) (r x : Int) : Cfg := { c with regs := c.regs.set r.toNat x }
def Cfg.fits (c : Cfg) (n : Int) : Bool := decide (0 ≤ n) && decide (n < (c.mem.length : Int))
def exec (m : Mac) (c : Cfg) : Ctl × Cfg :=
  if 5 ≤ m.op ∧ m.op ≤ 18 then (match twoI (m.op - 3) (c.reg m.a) (c.reg m.b) with | none => (.stop 2 0, c) | some x => (.fall, c.put m.dst x))
  else if 19 ≤ m.op ∧ m.op ≤ 32 then (match twoI (m.op - 17) (c.reg m.a) m.n with | none => (.stop 2 0, c) | some x => (.fall, c.put m.dst x))
  else if 37 ≤ m.op ∧ m.op ≤ 43 then (if goesM m.op (c.reg m.a) (c.reg m.b) then (.jump m.n.toNat, c) else (.fall, c))
  else if m.op = 1 then (.fall, c.put m.dst m.n)
  else if m.op = 2 then (.fall, c.put m.dst (c.reg m.a))
  else if m.op = 3 then (.fall, c.put m.dst (wrap64 (-(c.reg m.a))))
  else if m.op = 4 then (.fall, c.put m.dst (bits .xor .i64 (-1) (c.reg m.a)))
  else if m.op = 33 then (if c.fits (wrap64 (c.reg m.a + m.n)) then (.fall, c.put m.dst (c.mem.getD (wrap64 (c.reg m.a + m.n)).toNat 0)) else (.stop 3 0, c))
  else if m.op = 34 then (if c.fits (wrap64 (c.reg m.a + m.n)) then (.fall, { c with mem := c.mem.set (wrap64 (c.reg m.a + m.n)).toNat (c.reg m.b) }) else (.stop 3 0, c))
  else if m.op = 35 then (.fall, c.put m.dst (c.fr.getD m.n.toNat 0))
  else if m.op = 36 then (.fall, { c with fr := c.fr.set m.n.toNat (c.reg m.a) })
  else if m.op = 45 then (.stop 0 (c.reg 0), c)
  else if m.op = 46 then (match c.inp with | [] => (.fall, c.put m.dst (-1)) | x :: l => (.fall, { c.put m.dst x with inp := l }))
  else if m.op = 47 then (if c.out.length = 200 then (.stop 5 0, c) else (.fall, { c with out := c.out ++ [c.reg m.a] }))
  else (.fall, c)
/-- A run ends: after so many steps, in a state, with what it told and printed. -/
inductive Ends (l : List Mac) : Nat → Cfg → Nat → Int × Int × List Int → Prop where
  | stop {pc : Nat} {c c' : Cfg} {st v : Int} : exec (atL l pc) c = (.stop st v, c') → Ends l pc c 1 (st, v, c'.out)
  | fall {pc k : Nat} {c c' : Cfg} {O : Int × Int × List Int} : exec (atL l pc) c = (.fall, c') → Ends l (pc + 1) c' k O → Ends l pc c (k + 1) O
  | jump {pc k n : Nat} {c c' : Cfg} {O : Int × Int × List Int} : exec (atL l pc) c = (.jump n, c') → Ends l n c' k O → Ends l pc c (k + 1) O
def cfgM (s : MS) (fr : List Int) : Cfg := ⟨s.regs, fr, s.mem, s.inp, s.out⟩
/-- The machine with one routine under way. -/
def oneM (s : MS) (pc : Nat) (fr : List Int) : Prop := s.calls = [⟨0, pc, fr⟩] ∧ s.over = false ∧ s.st = 0 ∧ s.val = 0
def Match (D : MS) (n pc : Nat) : Ctl × Cfg → Prop
  | (.stop st v, c') => D.over = true ∧ D.st = st ∧ D.val = v ∧ D.out = c'.out ∧ D.steps = n
  | (.fall, c') => oneM D (pc + 1) c'.fr ∧ cfgM D c'.fr = c' ∧ D.steps = n
  | (.jump k, c') => oneM D k c'.fr ∧ cfgM D c'.fr = c' ∧ D.steps = n
theorem match_ite {D1 D2 : MS} {n pc : Nat} {E1 E2 : Ctl × Cfg} (b1 b2 : Bool) (h : b1 = b2) (h1 : Match D1 n pc E1) (h2 : Match D2 n pc E2) : Match (if b1 = true then D1 else D2) n pc (if b2 = true then E1 else E2) := by
  subst h
  cases b1
  · exact h2
  · exact h1
theorem doM_exec (m : Mac) (pc : Nat) (fr regs mem inp out : List Int) (n : Nat) (h44 : m.op ≠ 44) (h1 : 1 ≤ m.op) (h47 : m.op ≤ 47) :
    Match (doM m ⟨0, pc + 1, fr⟩ [] ⟨regs, mem, [⟨0, pc + 1, fr⟩], inp, 0, 0, out, n, false⟩) n pc (exec m ⟨regs, fr, mem, inp, out⟩) := by
  unfold doM exec
  by_cases hA : 5 ≤ m.op ∧ m.op ≤ 18
  · rw [if_pos hA, if_pos hA]
    unfold reckM
    simp only [MS.reg, Cfg.reg]
    cases twoI (m.op - 3) (regs.getD m.a.toNat 0) (regs.getD m.b.toNat 0) with
    | none => exact ⟨rfl, rfl, rfl, rfl, rfl⟩
    | some x => exact ⟨⟨rfl, rfl, rfl, rfl⟩, rfl, rfl⟩
  rw [if_neg hA, if_neg hA]
  by_cases hB : 19 ≤ m.op ∧ m.op ≤ 32
  · rw [if_pos hB, if_pos hB]
    unfold reckM
    simp only [MS.reg, Cfg.reg]
    rw [show m.op - 14 - 3 = m.op - 17 from by omega]
    cases twoI (m.op - 17) (regs.getD m.a.toNat 0) m.n with
    | none => exact ⟨rfl, rfl, rfl, rfl, rfl⟩
    | some x => exact ⟨⟨rfl, rfl, rfl, rfl⟩, rfl, rfl⟩
  rw [if_neg hB, if_neg hB]
  by_cases hC : 37 ≤ m.op ∧ m.op ≤ 43
  · rw [if_pos hC, if_pos hC]
    exact match_ite _ _ rfl ⟨⟨rfl, rfl, rfl, rfl⟩, rfl, rfl⟩ ⟨⟨rfl, rfl, rfl, rfl⟩, rfl, rfl⟩
  rw [if_neg hC, if_neg hC]
  by_cases hD : 44 ≤ m.op
  · rw [if_pos hD, if_neg (by omega), if_neg (by omega), if_neg (by omega), if_neg (by omega), if_neg (by omega), if_neg (by omega), if_neg (by omega), if_neg (by omega)]
    unfold speaksM
    rw [if_neg h44]
    by_cases h45 : m.op = 45
    · rw [if_pos h45, if_pos h45, if_pos rfl]
      exact ⟨rfl, rfl, rfl, rfl, rfl⟩
    rw [if_neg h45, if_neg h45]
    by_cases h46 : m.op = 46
    · rw [if_pos h46, if_pos h46]
      cases inp with
      | nil => exact ⟨⟨rfl, rfl, rfl, rfl⟩, rfl, rfl⟩
      | cons x l => exact ⟨⟨rfl, rfl, rfl, rfl⟩, rfl, rfl⟩
    have h47' : m.op = 47 := by omega
    rw [if_neg h46, if_neg h46, if_pos h47', if_pos h47']
    simp only [MS.reg, Cfg.reg]
    by_cases h2 : out.length = 200
    · rw [if_pos h2, if_pos h2]
      exact ⟨rfl, rfl, rfl, rfl, rfl⟩
    · rw [if_neg h2, if_neg h2]
      exact ⟨⟨rfl, rfl, rfl, rfl⟩, rfl, rfl⟩
  rw [if_neg hD]
  unfold movesM
  by_cases k1 : m.op = 1
  · rw [if_pos k1, if_pos k1]
    exact ⟨⟨rfl, rfl, rfl, rfl⟩, rfl, rfl⟩
  rw [if_neg k1, if_neg k1]
  by_cases k2 : m.op = 2
  · rw [if_pos k2, if_pos k2]
    exact ⟨⟨rfl, rfl, rfl, rfl⟩, rfl, rfl⟩
  rw [if_neg k2, if_neg k2]
  by_cases k3 : m.op = 3
  · rw [if_pos k3, if_pos k3]
    exact ⟨⟨rfl, rfl, rfl, rfl⟩, rfl, rfl⟩
  rw [if_neg k3, if_neg k3]
  by_cases k4 : m.op = 4
  · rw [if_pos k4, if_pos k4]
    exact ⟨⟨rfl, rfl, rfl, rfl⟩, rfl, rfl⟩
  rw [if_neg k4, if_neg k4]
  by_cases k33 : m.op = 33
  · rw [if_pos k33, if_pos k33]
    exact match_ite _ _ rfl ⟨⟨rfl, rfl, rfl, rfl⟩, rfl, rfl⟩ ⟨rfl, rfl, rfl, rfl, rfl⟩
  rw [if_neg k33, if_neg k33]
  by_cases k34 : m.op = 34
  · rw [if_pos k34, if_pos k34]
    exact match_ite _ _ rfl ⟨⟨rfl, rfl, rfl, rfl⟩, rfl, rfl⟩ ⟨rfl, rfl, rfl, rfl, rfl⟩
  rw [if_neg k34, if_neg k34]
  by_cases k35 : m.op = 35
  · rw [if_pos k35, if_pos k35]
    exact ⟨⟨rfl, rfl, rfl, rfl⟩, rfl, rfl⟩
  rw [if_neg k35, if_neg k35]
  have k36 : m.op = 36 := by omega
  rw [if_pos k36, if_pos k36]
  exact ⟨⟨rfl, rfl, rfl, rfl⟩, rfl, rfl⟩
theorem step_exec {l : List Mac} {s : MS} {pc : Nat} {fr : List Int} (h : oneM s pc fr) (h44 : (atL l pc).op ≠ 44) (h1 : 1 ≤ (atL l pc).op) (h47 : (atL l pc).op ≤ 47) :
    Match (stepM [l] s) (s.steps + 1) pc (exec (atL l pc) (cfgM s fr)) := by
  obtain ⟨regs, mem, calls, inp, st0, val0, out, steps, over⟩ := s
  obtain ⟨hc, ho, hst, hv⟩ := h
  simp only at hc ho hst hv
  subst hc ho hst hv
  exact doM_exec (atL l pc) pc fr regs mem inp out (steps + 1) h44 h1 h47
/-- Code of one routine that calls none and may be. -/
structure Fine1 (l : List Mac) : Prop where
  code : CodeOk 1 l
  none : ∀ m ∈ l, m.op ≠ 44
theorem atL_mem {l : List Mac} {i : Nat} (h : i < l.length) : atL l i ∈ l := by
  unfold atL
  rw [List.getD_eq_getElem?_getD, List.getElem?_eq_getElem h]
  exact List.getElem_mem h
theorem Fine1.at_ {l : List Mac} (h : Fine1 l) {i : Nat} (hi : i < l.length) : MacOk (atL l i) l.length ∧ (atL l i).op ≠ 44 := ⟨macF_ok (h.code.fine _ (atL_mem hi)), h.none _ (atL_mem hi)⟩
theorem exec_fall {m : Mac} {c c' : Cfg} (h : exec m c = (.fall, c')) : m.op ≠ 37 ∧ m.op ≠ 45 := by
  refine ⟨fun e => ?_, fun e => ?_⟩
  · have : exec m c = (.jump m.n.toNat, c) := by unfold exec; rw [if_neg (by omega), if_neg (by omega), if_pos (by omega), e]; rfl
    rw [this] at h; cases h
  · have : exec m c = (.stop 0 (c.reg 0), c) := by
      unfold exec
      rw [if_neg (by omega), if_neg (by omega), if_neg (by omega), if_neg (by omega), if_neg (by omega), if_neg (by omega), if_neg (by omega), if_neg (by omega), if_neg (by omega), if_neg (by omega), if_neg (by omega), if_pos e]
    rw [this] at h; cases h
theorem exec_jump {m : Mac} {c c' : Cfg} {n : Nat} (h : exec m c = (.jump n, c')) : jumpsM m = true ∧ n = m.n.toNat ∧ c' = c ∧ goesM m.op (c.reg m.a) (c.reg m.b) = true := by
  by_cases hj : 37 ≤ m.op ∧ m.op ≤ 43
  · have e : exec m c = if goesM m.op (c.reg m.a) (c.reg m.b) then (.jump m.n.toNat, c) else (.fall, c) := by
      unfold exec
      rw [if_neg (by omega), if_neg (by omega), if_pos hj]
    rw [e] at h
    cases hg : goesM m.op (c.reg m.a) (c.reg m.b) with
    | false => rw [hg] at h; simp at h
    | true =>
      rw [hg] at h
      simp at h
      exact ⟨by unfold jumpsM; simpa using hj, h.1.symm, h.2.symm, rfl⟩
  · exfalso
    unfold exec at h
    by_cases hA : 5 ≤ m.op ∧ m.op ≤ 18
    · rw [if_pos hA] at h
      cases hx : twoI (m.op - 3) (c.reg m.a) (c.reg m.b) <;> rw [hx] at h <;> cases h
    rw [if_neg hA] at h
    by_cases hB : 19 ≤ m.op ∧ m.op ≤ 32
    · rw [if_pos hB] at h
      cases hx : twoI (m.op - 17) (c.reg m.a) m.n <;> rw [hx] at h <;> cases h
    rw [if_neg hB, if_neg hj] at h
    by_cases k1 : m.op = 1
    · rw [if_pos k1] at h; cases h
    rw [if_neg k1] at h
    by_cases k1 : m.op = 2
    · rw [if_pos k1] at h; cases h
    rw [if_neg k1] at h
    by_cases k1 : m.op = 3
    · rw [if_pos k1] at h; cases h
    rw [if_neg k1] at h
    by_cases k1 : m.op = 4
    · rw [if_pos k1] at h; cases h
    rw [if_neg k1] at h
    by_cases k1 : m.op = 33
    · rw [if_pos k1] at h
      by_cases hf : c.fits (wrap64 (c.reg m.a + m.n)) = true
      · rw [if_pos hf] at h; cases h
      · rw [if_neg hf] at h; cases h
    rw [if_neg k1] at h
    by_cases k1 : m.op = 34
    · rw [if_pos k1] at h
      by_cases hf : c.fits (wrap64 (c.reg m.a + m.n)) = true
      · rw [if_pos hf] at h; cases h
      · rw [if_neg hf] at h; cases h
    rw [if_neg k1] at h
    by_cases k1 : m.op = 35
    · rw [if_pos k1] at h; cases h
    rw [if_neg k1] at h
    by_cases k1 : m.op = 36
    · rw [if_pos k1] at h; cases h
    rw [if_neg k1] at h
    by_cases k1 : m.op = 45
    · rw [if_pos k1] at h; cases h
    rw [if_neg k1] at h
    by_cases k1 : m.op = 46
    · rw [if_pos k1] at h
      cases hx : c.inp <;> rw [hx] at h <;> cases h
    rw [if_neg k1] at h
    by_cases k1 : m.op = 47
    · rw [if_pos k1] at h
      by_cases hf : c.out.length = 200
      · rw [if_pos hf] at h; cases h
      · rw [if_neg hf] at h; cases h
    rw [if_neg k1] at h
    cases h
theorem Fine1.fall {l : List Mac} (h : Fine1 l) {pc : Nat} {c c' : Cfg} (hp : pc < l.length) (he : exec (atL l pc) c = (.fall, c')) : pc + 1 < l.length := pc_next h.code hp (exec_fall he).1 (exec_fall he).2
theorem Fine1.jump {l : List Mac} (h : Fine1 l) {pc n : Nat} {c c' : Cfg} (hp : pc < l.length) (he : exec (atL l pc) c = (.jump n, c')) : n < l.length := by
  obtain ⟨hj, hn, _⟩ := exec_jump he
  have h1 : 37 ≤ (atL l pc).op ∧ (atL l pc).op ≤ 43 := by unfold jumpsM at hj; simpa using hj
  have := (h.at_ hp).1.jump h1.1 h1.2
  omega
/-- A run that ends, step by step, and as the machine has it. -/
theorem run_ends {l : List Mac} (h : Fine1 l) : ∀ (n : Nat) (s : MS) (pc : Nat) (fr : List Int), oneM s pc fr → pc < l.length → (runM [l] n s).over = true →
    ∃ k, k ≤ n ∧ Ends l pc (cfgM s fr) k ((runM [l] n s).st, (runM [l] n s).val, (runM [l] n s).out) ∧ (runM [l] n s).steps = s.steps + k
  | 0, s, pc, fr, ho, _, hov => by
    rw [runM, ho.2.1] at hov
    cases hov
  | n + 1, s, pc, fr, ho, hp, hov => by
    have ⟨hm, h44⟩ := h.at_ hp
    have hst := step_exec (l := l) ho h44 hm.op1 hm.op47
    rw [runM_step ho.2.1] at hov ⊢
    cases he : exec (atL l pc) (cfgM s fr) with
    | mk ct c' =>
      rw [he] at hst
      cases ct with
      | stop st v =>
        obtain ⟨h1, h2, h3, h4, h5⟩ := hst
        rw [runM_over h1]
        refine ⟨1, by omega, ?_, h5⟩
        rw [h2, h3, h4]
        exact .stop he
      | fall =>
        obtain ⟨h1, h2, h3⟩ := hst
        obtain ⟨k, hk, he2, hs⟩ := run_ends h n _ _ _ h1 (h.fall hp he) hov
        refine ⟨k + 1, by omega, .fall he (by rw [h2] at he2; exact he2), by rw [hs, h3]; omega⟩
      | jump t =>
        obtain ⟨h1, h2, h3⟩ := hst
        obtain ⟨k, hk, he2, hs⟩ := run_ends h n _ _ _ h1 (h.jump hp he) hov
        refine ⟨k + 1, by omega, .jump he (by rw [h2] at he2; exact he2), by rw [hs, h3]; omega⟩
theorem ends_run {l : List Mac} (h : Fine1 l) {pc : Nat} {c : Cfg} {k : Nat} {O : Int × Int × List Int} (he : Ends l pc c k O) : ∀ (s : MS) (fr : List Int) (n : Nat), oneM s pc fr → cfgM s fr = c → pc < l.length → k ≤ n →
    (runM [l] n s).over = true ∧ ((runM [l] n s).st, (runM [l] n s).val, (runM [l] n s).out) = O ∧ (runM [l] n s).steps = s.steps + k := by
  induction he with
  | @stop pc c c' st v he =>
    intro s fr n ho hc hp hk
    subst hc
    have ⟨hm, h44⟩ := h.at_ hp
    have hst := step_exec (l := l) ho h44 hm.op1 hm.op47
    rw [he] at hst
    obtain ⟨h1, h2, h3, h4, h5⟩ := hst
    obtain ⟨n, rfl⟩ : ∃ n', n = n' + 1 := ⟨n - 1, by omega⟩
    rw [runM_step ho.2.1, runM_over h1]
    exact ⟨h1, by rw [h2, h3, h4], h5⟩
  | @fall pc k c c' O he _ ih =>
    intro s fr n ho hc hp hk
    subst hc
    have ⟨hm, h44⟩ := h.at_ hp
    have hst := step_exec (l := l) ho h44 hm.op1 hm.op47
    rw [he] at hst
    obtain ⟨h1, h2, h3⟩ := hst
    obtain ⟨n, rfl⟩ : ∃ n', n = n' + 1 := ⟨n - 1, by omega⟩
    rw [runM_step ho.2.1]
    obtain ⟨e1, e2, e3⟩ := ih _ _ n h1 h2 (h.fall hp he) (by omega)
    exact ⟨e1, e2, by rw [e3, h3]; omega⟩
  | @jump pc k t c c' O he _ ih =>
    intro s fr n ho hc hp hk
    subst hc
    have ⟨hm, h44⟩ := h.at_ hp
    have hst := step_exec (l := l) ho h44 hm.op1 hm.op47
    rw [he] at hst
    obtain ⟨h1, h2, h3⟩ := hst
    obtain ⟨n, rfl⟩ : ∃ n', n = n' + 1 := ⟨n - 1, by omega⟩
    rw [runM_step ho.2.1]
    obtain ⟨e1, e2, e3⟩ := ih _ _ n h1 h2 (h.jump hp he) (by omega)
    exact ⟨e1, e2, by rw [e3, h3]; omega⟩
end Go.Proofs.YtkcmijnaheapdaaDoor
