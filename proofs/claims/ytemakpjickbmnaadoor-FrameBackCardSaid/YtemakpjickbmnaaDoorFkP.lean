/- FrameBack, plainly: a routine that keeps registers, changes all, and gives them back. -/
import Derived.Test.YtemakpjickbmnaaDoorMachA
import Derived.Test.YtemakpjickbmnaaDoorPeepPl
import Derived.Test.YtemakpjickbmnaaDoorFk1
namespace Go.Proofs.YtemakpjickbmnaaDoor
open Go.RowKit
set_option linter.unusedSimpArgs false
set_option linter.unusedVariables false

/-- The registers that a number's bits name. -/
def bitsTo (y m : Nat) : List Int := ((List.range m).filter (fun q => decide (y / 2 ^ q % 2 = 1))).map (fun q : Nat => (q : Int) + 6)
theorem bitsTo_step (y m : Nat) : bitsTo y (m + 1) = bitsTo y m ++ (if y / 2 ^ m % 2 = 1 then [(m : Int) + 6] else []) := by
  unfold bitsTo
  rw [List.range_succ, List.filter_append, List.map_append]
  congr 1
  by_cases h : y / 2 ^ m % 2 = 1
  · simp [h]
  · simp [h]
theorem bitsTo_len (y m : Nat) : (bitsTo y m).length ≤ m := by
  unfold bitsTo
  rw [List.length_map]
  exact Nat.le_trans (List.length_filter_le _ _) (by simp)
theorem bits_fault : ∀ y : Nat, y < 256 → savesFault (bitsTo y 8) (bitsTo y 8).length 0 = (0, 0) := by decide +kernel
theorem bits_each : ∀ y : Nat, y < 256 → ∀ x ∈ bitsTo y 8, 6 ≤ x ∧ x ≤ 13 := by decide +kernel
theorem bits_nodup : ∀ y : Nat, y < 256 → (bitsTo y 8).Nodup := by decide +kernel

def callee (s : Int) (xs : List Int) : List Mac := entered s xs ++ (List.range 14).map (fun k : Nat => (⟨1, (k : Int), 0, 0, 1000 + (k : Int)⟩ : Mac)) ++ (left s xs ++ [macReturn])
def mainOf (reg n : Int) : List Mac := [⟨1, reg, 0, 0, n⟩, ⟨44, 0, 0, 0, 1⟩, ⟨2, 0, reg, 0, 0⟩, ⟨45, 0, 0, 0, 0⟩]

/-! ### One step -/
section
variable {cs : List (List Mac)} {regs mem inp out : List Int} {c : Frm} {r : List Frm} {f k : Nat} {m : Mac}
theorem go_set (h : nextM cs c = m) (h1 : m.op = 1) : runM cs (f + 1) ⟨regs, mem, c :: r, inp, 0, 0, out, k, false⟩ = runM cs f ⟨regs.set m.dst.toNat m.n, mem, ⟨c.rt, c.pc + 1, c.fr⟩ :: r, inp, 0, 0, out, k + 1, false⟩ := by
  simp [runM, stepM, h, doM, movesM, MS.put, h1]
theorem go_move (h : nextM cs c = m) (h1 : m.op = 2) : runM cs (f + 1) ⟨regs, mem, c :: r, inp, 0, 0, out, k, false⟩ = runM cs f ⟨regs.set m.dst.toNat (regs.getD m.a.toNat 0), mem, ⟨c.rt, c.pc + 1, c.fr⟩ :: r, inp, 0, 0, out, k + 1, false⟩ := by
  simp [runM, stepM, h, doM, movesM, MS.put, MS.reg, h1]
theorem go_get (h : nextM cs c = m) (h1 : m.op = 35) : runM cs (f + 1) ⟨regs, mem, c :: r, inp, 0, 0, out, k, false⟩ = runM cs f ⟨regs.set m.dst.toNat (c.fr.getD m.n.toNat 0), mem, ⟨c.rt, c.pc + 1, c.fr⟩ :: r, inp, 0, 0, out, k + 1, false⟩ := by
  simp [runM, stepM, h, doM, movesM, MS.put, h1]
theorem go_put (h : nextM cs c = m) (h1 : m.op = 36) : runM cs (f + 1) ⟨regs, mem, c :: r, inp, 0, 0, out, k, false⟩ = runM cs f ⟨regs, mem, ⟨c.rt, c.pc + 1, c.fr.set m.n.toNat (regs.getD m.a.toNat 0)⟩ :: r, inp, 0, 0, out, k + 1, false⟩ := by
  simp [runM, stepM, h, doM, movesM, MS.reg, h1]
theorem go_call (h : nextM cs c = m) (h1 : m.op = 44) (hr : r.length + 1 ≠ 30) : runM cs (f + 1) ⟨regs, mem, c :: r, inp, 0, 0, out, k, false⟩ = runM cs f ⟨regs, mem, ⟨m.n.toNat, 0, frame0⟩ :: ⟨c.rt, c.pc + 1, c.fr⟩ :: r, inp, 0, 0, out, k + 1, false⟩ := by
  simp [runM, stepM, h, doM, speaksM, h1, hr]
theorem go_back (h : nextM cs c = m) (h1 : m.op = 45) (hr : r ≠ []) : runM cs (f + 1) ⟨regs, mem, c :: r, inp, 0, 0, out, k, false⟩ = runM cs f ⟨regs, mem, r, inp, 0, 0, out, k + 1, false⟩ := by
  simp [runM, stepM, h, doM, speaksM, h1, hr]
theorem go_end (h : nextM cs c = m) (h1 : m.op = 45) : runM cs (f + 1) ⟨regs, mem, [c], inp, 0, 0, out, k, false⟩ = ⟨regs, mem, [], inp, 0, regs.getD 0 0, out, k + 1, true⟩ := by
  have : runM cs (f + 1) ⟨regs, mem, [c], inp, 0, 0, out, k, false⟩ = runM cs f ⟨regs, mem, [], inp, 0, regs.getD 0 0, out, k + 1, true⟩ := by
    simp [runM, stepM, h, doM, speaksM, h1, MS.reg]
  rw [this]
  cases f with
  | zero => rfl
  | succ f => simp [runM]
end
/-! ### Rows of steps -/
def putsTo (s : Int) (regs fr : List Int) (xs : List Int) : Nat → List Int
  | 0 => fr
  | m + 1 => (putsTo s regs fr xs m).set (s + (m : Int)).toNat (regs.getD (xs.getD m 0).toNat 0)
def setsTo (regs : List Int) : Nat → List Int
  | 0 => regs
  | m + 1 => (setsTo regs m).set m (1000 + (m : Int))
def getsTo (s : Int) (fr regs : List Int) (xs : List Int) : Nat → List Int
  | 0 => regs
  | m + 1 => (getsTo s fr regs xs m).set (xs.getD m 0).toNat (fr.getD (s + (m : Int)).toNat 0)
theorem run_puts {cs : List (List Mac)} {mem inp out : List Int} {r : List Frm} {f k rt pc : Nat} {s : Int} {regs fr xs : List Int} (m : Nat) (h : ∀ j, j < m → (cs.getD rt []).getD (pc + j) macZ0 = ⟨36, 0, xs.getD j 0, 0, s + (j : Int)⟩) :
    runM cs (f + m) ⟨regs, mem, ⟨rt, pc, fr⟩ :: r, inp, 0, 0, out, k, false⟩ = runM cs f ⟨regs, mem, ⟨rt, pc + m, putsTo s regs fr xs m⟩ :: r, inp, 0, 0, out, k + m, false⟩ := by
  induction m generalizing f with
  | zero => rfl
  | succ m ih =>
    rw [show f + (m + 1) = (f + 1) + m from by omega, ih (fun j hj => h j (by omega)), go_put (c := ⟨rt, pc + m, putsTo s regs fr xs m⟩) (m := ⟨36, 0, xs.getD m 0, 0, s + (m : Int)⟩) (h m (by omega)) rfl]
    rfl
theorem run_sets {cs : List (List Mac)} {mem inp out : List Int} {r : List Frm} {f k rt pc : Nat} {regs fr : List Int} (m : Nat) (h : ∀ j, j < m → (cs.getD rt []).getD (pc + j) macZ0 = ⟨1, (j : Int), 0, 0, 1000 + (j : Int)⟩) :
    runM cs (f + m) ⟨regs, mem, ⟨rt, pc, fr⟩ :: r, inp, 0, 0, out, k, false⟩ = runM cs f ⟨setsTo regs m, mem, ⟨rt, pc + m, fr⟩ :: r, inp, 0, 0, out, k + m, false⟩ := by
  induction m generalizing f with
  | zero => rfl
  | succ m ih =>
    rw [show f + (m + 1) = (f + 1) + m from by omega, ih (fun j hj => h j (by omega)), go_set (c := ⟨rt, pc + m, fr⟩) (m := ⟨1, (m : Int), 0, 0, 1000 + (m : Int)⟩) (h m (by omega)) rfl]
    rfl
theorem run_gets {cs : List (List Mac)} {mem inp out : List Int} {r : List Frm} {f k rt pc : Nat} {s : Int} {regs fr xs : List Int} (m : Nat) (h : ∀ j, j < m → (cs.getD rt []).getD (pc + j) macZ0 = ⟨35, xs.getD j 0, 0, 0, s + (j : Int)⟩) :
    runM cs (f + m) ⟨regs, mem, ⟨rt, pc, fr⟩ :: r, inp, 0, 0, out, k, false⟩ = runM cs f ⟨getsTo s fr regs xs m, mem, ⟨rt, pc + m, fr⟩ :: r, inp, 0, 0, out, k + m, false⟩ := by
  induction m generalizing f with
  | zero => rfl
  | succ m ih =>
    rw [show f + (m + 1) = (f + 1) + m from by omega, ih (fun j hj => h j (by omega)), go_get (c := ⟨rt, pc + m, fr⟩) (m := ⟨35, xs.getD m 0, 0, 0, s + (m : Int)⟩) (h m (by omega)) rfl]
    rfl
theorem putsTo_len (s : Int) (regs fr xs : List Int) : ∀ m, (putsTo s regs fr xs m).length = fr.length
  | 0 => rfl
  | m + 1 => by rw [putsTo, List.length_set, putsTo_len s regs fr xs m]
theorem putsTo_at {s : Nat} {regs fr xs : List Int} : ∀ (m : Nat), s + m ≤ fr.length → ∀ j, j < m → (putsTo (s : Int) regs fr xs m).getD (s + j) 0 = regs.getD (xs.getD j 0).toNat 0
  | 0, _, j, hj => by omega
  | m + 1, hm, j, hj => by
    rw [putsTo, show ((s : Int) + (m : Int)).toNat = s + m from by omega, getD_put (by rw [putsTo_len]; omega)]
    by_cases e : j = m
    · rw [if_pos (by omega), e]
    · rw [if_neg (by omega)]
      exact putsTo_at m (by omega) j (by omega)
theorem setsTo_len (regs : List Int) : ∀ m, (setsTo regs m).length = regs.length
  | 0 => rfl
  | m + 1 => by rw [setsTo, List.length_set, setsTo_len regs m]
theorem setsTo_at {regs : List Int} : ∀ (m : Nat), m ≤ regs.length → ∀ j, j < m → (setsTo regs m).getD j 0 = 1000 + (j : Int)
  | 0, _, j, hj => by omega
  | m + 1, hm, j, hj => by
    rw [setsTo, getD_put (by rw [setsTo_len]; omega)]
    by_cases e : j = m
    · rw [if_pos e, e]
    · rw [if_neg e]
      exact setsTo_at m (by omega) j (by omega)
theorem getsTo_len (s : Int) (fr regs xs : List Int) : ∀ m, (getsTo s fr regs xs m).length = regs.length
  | 0 => rfl
  | m + 1 => by rw [getsTo, List.length_set, getsTo_len s fr regs xs m]
theorem getsTo_no {s : Int} {fr regs xs : List Int} {q : Nat} : ∀ (m : Nat), (∀ j, j < m → 0 ≤ xs.getD j 0 ∧ xs.getD j 0 < (regs.length : Int) ∧ xs.getD j 0 ≠ (q : Int)) → (getsTo s fr regs xs m).getD q 0 = regs.getD q 0
  | 0, _ => rfl
  | m + 1, h => by
    have := h m (by omega)
    rw [getsTo, getD_put (by rw [getsTo_len]; omega), if_neg (by omega)]
    exact getsTo_no m fun j hj => h j (by omega)
theorem getsTo_yes {s : Int} {fr regs xs : List Int} {q j : Nat} : ∀ (m : Nat), (∀ j, j < m → 0 ≤ xs.getD j 0 ∧ xs.getD j 0 < (regs.length : Int)) → j < m → xs.getD j 0 = (q : Int) → (∀ i, i < m → i ≠ j → xs.getD i 0 ≠ (q : Int)) → (getsTo s fr regs xs m).getD q 0 = fr.getD (s + (j : Int)).toNat 0
  | 0, _, hj, _, _ => by omega
  | m + 1, h, hj, he, hn => by
    have h1 := h m (by omega)
    rw [getsTo, getD_put (by rw [getsTo_len]; omega)]
    by_cases e : j = m
    · subst e
      rw [if_pos (by omega)]
    · have h2 := hn m (by omega) (fun e' => e e'.symm)
      rw [if_neg (by omega)]
      exact getsTo_yes m (fun i hi => h i (by omega)) (by omega) he fun i hi hne => hn i (by omega) hne
/-! ### The whole run -/
theorem entered_at {s : Int} {xs : List Int} {j : Nat} (h : j < xs.length) : (entered s xs)[j]? = some ⟨36, 0, xs.getD j 0, 0, s + (j : Int)⟩ := by
  simp [entered, List.getD_eq_getElem?_getD, h]
theorem left_at {s : Int} {xs : List Int} {j : Nat} (h : j < xs.length) : (left s xs)[j]? = some ⟨35, xs.getD j 0, 0, 0, s + (j : Int)⟩ := by
  simp [left, List.getD_eq_getElem?_getD, h]
theorem callee_puts {s : Int} {xs : List Int} {j : Nat} (h : j < xs.length) : (callee s xs).getD (0 + j) macZ0 = ⟨36, 0, xs.getD j 0, 0, s + (j : Int)⟩ := by
  unfold callee
  rw [List.getD_eq_getElem?_getD, Nat.zero_add, List.getElem?_append_left (by simp [entered_length]; omega), List.getElem?_append_left (by rw [entered_length]; exact h), entered_at h]
  rfl
theorem callee_sets {s : Int} {xs : List Int} {j : Nat} (h : j < 14) : (callee s xs).getD (xs.length + j) macZ0 = ⟨1, (j : Int), 0, 0, 1000 + (j : Int)⟩ := by
  unfold callee
  rw [List.getD_eq_getElem?_getD, List.getElem?_append_left (by simp [entered_length]; omega), List.getElem?_append_right (by rw [entered_length]; omega), entered_length, show xs.length + j - xs.length = j from by omega, List.getElem?_map, List.getElem?_range h]
  rfl
theorem callee_gets {s : Int} {xs : List Int} {j : Nat} (h : j < xs.length) : (callee s xs).getD (xs.length + 14 + j) macZ0 = ⟨35, xs.getD j 0, 0, 0, s + (j : Int)⟩ := by
  unfold callee
  rw [List.getD_eq_getElem?_getD, List.getElem?_append_right (by simp [entered_length] <;> omega)]
  simp only [List.length_append, entered_length, List.length_map, List.length_range]
  rw [show xs.length + 14 + j - (xs.length + 14) = j from by omega, List.getElem?_append_left (by rw [left_length]; exact h), left_at h]
  rfl
theorem callee_ret {s : Int} {xs : List Int} : (callee s xs).getD (xs.length + 14 + xs.length) macZ0 = ⟨45, 0, 0, 0, 0⟩ := by
  unfold callee
  rw [List.getD_eq_getElem?_getD, List.getElem?_append_right (by simp [entered_length] <;> omega)]
  simp only [List.length_append, entered_length, List.length_map, List.length_range]
  rw [show xs.length + 14 + xs.length - (xs.length + 14) = xs.length from by omega, List.getElem?_append_right (by rw [left_length]; omega), left_length, Nat.sub_self]
  rfl
theorem callee_len (s : Int) (xs : List Int) : (callee s xs).length = xs.length + 14 + (xs.length + 1) := by
  unfold callee
  simp [entered_length, left_length]
  omega
/-- What main's register holds behind the call. -/
theorem frame_run {s : Nat} (hs : s ≤ 100) {xs : List Int} (h8 : xs.length ≤ 8) (hx : ∀ x ∈ xs, 6 ≤ x ∧ x ≤ 13) (hnd : xs.Nodup) {reg : Nat} (hr6 : 6 ≤ reg) (hr13 : reg ≤ 13) (n : Int) :
    outM (runM [mainOf (reg : Int) n, callee (s : Int) xs] 100 (beginM [] [])) = ⟨0, if (reg : Int) ∈ xs then n else 1000 + (reg : Int), [], 2 * xs.length + 19⟩ := by
  have hat : ∀ j, j < xs.length → 6 ≤ xs.getD j 0 ∧ xs.getD j 0 ≤ 13 := fun j hj => by
    rw [List.getD_eq_getElem?_getD, List.getElem?_eq_getElem hj]
    exact hx _ (List.getElem_mem hj)
  obtain ⟨F, hF⟩ : ∃ F, 100 = ((((((((F + 1) + 1) + 1) + xs.length) + 14) + xs.length) + 1) + 1) := ⟨81 - 2 * xs.length, by omega⟩
  have h0 : ([mainOf (reg : Int) n, callee (s : Int) xs].getD 1 []) = callee (s : Int) xs := rfl
  rw [hF]
  unfold beginM
  rw [go_set (m := ⟨1, (reg : Int), 0, 0, n⟩) rfl rfl, go_call (m := ⟨44, 0, 0, 0, 1⟩) rfl rfl (by simp)]
  simp only [show ((1 : Int)).toNat = 1 from rfl]
  rw [run_puts xs.length (rt := 1) (s := (s : Int)) (xs := xs) (fun j hj => by rw [h0]; exact callee_puts hj), Nat.zero_add]
  rw [run_sets 14 (rt := 1) (fun j hj => by rw [h0]; exact callee_sets hj)]
  rw [run_gets xs.length (rt := 1) (s := (s : Int)) (xs := xs) (fun j hj => by rw [h0]; exact callee_gets hj)]
  rw [go_back (m := ⟨45, 0, 0, 0, 0⟩) (by show ([mainOf (reg : Int) n, callee (s : Int) xs].getD 1 []).getD _ _ = _; rw [h0]; exact callee_ret) rfl (by simp)]
  rw [go_move (m := ⟨2, 0, (reg : Int), 0, 0⟩) rfl rfl, go_end (m := ⟨45, 0, 0, 0, 0⟩) rfl rfl]
  generalize hR0 : (List.replicate 16 (0 : Int)).set ((reg : Int)).toNat n = R0
  have hR0l : R0.length = 16 := by rw [← hR0]; simp
  have hR0a : R0.getD reg 0 = n := by
    rw [← hR0, Int.toNat_natCast, getD_put (by simp; omega), if_pos rfl]
  have hfl : (putsTo (s : Int) R0 frame0 xs xs.length).length = 120 := by rw [putsTo_len]; simp [frame0]
  have hval : (getsTo (s : Int) (putsTo (s : Int) R0 frame0 xs xs.length) (setsTo R0 14) xs xs.length).getD reg 0 = if (reg : Int) ∈ xs then n else 1000 + (reg : Int) := by
    by_cases hm : (reg : Int) ∈ xs
    · rw [if_pos hm]
      obtain ⟨j, hj, he⟩ := List.mem_iff_getElem.1 hm
      have hej : xs.getD j 0 = (reg : Int) := by rw [List.getD_eq_getElem?_getD, List.getElem?_eq_getElem hj]; exact he
      rw [getsTo_yes (q := reg) (j := j) xs.length (fun i hi => by have := hat i hi; rw [setsTo_len, hR0l]; omega) hj hej ?_]
      · rw [show ((s : Int) + (j : Int)).toNat = s + j from by omega, putsTo_at xs.length (by simp [frame0]; omega) j hj, hej, Int.toNat_natCast, hR0a]
      · intro i hi hne e
        have hei : xs[i] = (reg : Int) := by rw [List.getD_eq_getElem?_getD, List.getElem?_eq_getElem hi] at e; exact e
        rcases Nat.lt_or_gt_of_ne hne with hlt | hlt
        · exact List.pairwise_iff_getElem.1 hnd i j hi hj hlt (hei.trans he.symm)
        · exact List.pairwise_iff_getElem.1 hnd j i hj hi hlt (he.trans hei.symm)
    · rw [if_neg hm, getsTo_no (q := reg) xs.length (fun j hj => ?_), setsTo_at 14 (by omega) reg (by omega)]
      have := hat j hj
      rw [setsTo_len, hR0l]
      refine ⟨by omega, by omega, fun e => hm ?_⟩
      rw [← e, List.getD_eq_getElem?_getD, List.getElem?_eq_getElem hj]
      exact List.getElem_mem hj
  have hlen : (getsTo (s : Int) (putsTo (s : Int) R0 frame0 xs xs.length) (setsTo R0 14) xs xs.length).length = 16 := by rw [getsTo_len, setsTo_len, hR0l]
  unfold outM
  simp only [Int.toNat_natCast, if_true]
  have h00 : ((getsTo (s : Int) (putsTo (s : Int) R0 frame0 xs xs.length) (setsTo R0 14) xs xs.length).set (0 : Int).toNat ((getsTo (s : Int) (putsTo (s : Int) R0 frame0 xs xs.length) (setsTo R0 14) xs xs.length).getD reg 0)).getD 0 0 = if (reg : Int) ∈ xs then n else 1000 + (reg : Int) := by
    rw [show (0 : Int).toNat = 0 from rfl, getD_put (by omega), if_pos rfl, hval]
  rw [h00]
  congr 1
  omega
end Go.Proofs.YtemakpjickbmnaaDoor
