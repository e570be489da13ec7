/- What a rule leaves means what was there, plainly. -/
import Derived.Test.YtkcmijnaheapdaaDoorPeepS
namespace Go.Proofs.YtkcmijnaheapdaaDoor
open Go.RowKit
set_option linter.unusedSimpArgs false
set_option linter.unusedVariables false

/-- Two states that agree on registers P and on words Q of the frame. -/
structure Agr (P Q : Nat → Prop) (c c' : Cfg) : Prop where
  l1 : c.regs.length = 16
  l2 : c'.regs.length = 16
  f1 : c.fr.length = 120
  f2 : c'.fr.length = 120
  regs : ∀ r, r < 16 → P r → c.regs.getD r 0 = c'.regs.getD r 0
  fr : ∀ w, w < 120 → Q w → c.fr.getD w 0 = c'.fr.getD w 0
  mem : c.mem = c'.mem
  inp : c.inp = c'.inp
  out : c.out = c'.out
theorem Agr.mono {P P' Q : Nat → Prop} {c c' : Cfg} (h : Agr P Q c c') (hp : ∀ r, r < 16 → P' r → P r) : Agr P' Q c c' := { h with regs := fun r h1 h2 => h.regs r h1 (hp r h1 h2) }
theorem getD_put {l : List Int} {k j : Nat} {x : Int} (hk : k < l.length) : (l.set k x).getD j 0 = if j = k then x else l.getD j 0 := by
  rw [List.getD_eq_getElem?_getD, List.getD_eq_getElem?_getD, List.getElem?_set]
  by_cases h : k = j
  · subst h
    simp [hk]
  · rw [if_neg h, if_neg (fun e => h e.symm)]
theorem Agr.put {P Q : Nat → Prop} {c c' : Cfg} (h : Agr P Q c c') (r : Int) (h0 : 0 ≤ r) (h1 : r ≤ 15) (x : Int) : Agr (fun k => P k ∨ (k : Int) = r) Q (c.put r x) (c'.put r x) where
  l1 := by simp [Cfg.put, h.l1]
  l2 := by simp [Cfg.put, h.l2]
  f1 := h.f1
  f2 := h.f2
  regs := fun k hk hp => by
    show (c.regs.set r.toNat x).getD k 0 = (c'.regs.set r.toNat x).getD k 0
    rw [getD_put (by rw [h.l1]; omega), getD_put (by rw [h.l2]; omega)]
    by_cases e : k = r.toNat
    · rw [if_pos e, if_pos e]
    · rw [if_neg e, if_neg e]
      rcases hp with hp | hp
      · exact h.regs k hk hp
      · omega
  fr := h.fr
  mem := h.mem
  inp := h.inp
  out := h.out
/-- What an instruction speaks of, by its Op. -/
theorem shape_at (op : Int) (h1 : 1 ≤ op) (h2 : op ≤ 47) : (5 ≤ op ∧ op ≤ 18 → shapeOf op = ⟨true, true, true, 0⟩) ∧ (19 ≤ op ∧ op ≤ 32 → shapeOf op = ⟨true, true, false, 1⟩) ∧ (op = 1 → shapeOf op = ⟨true, false, false, 1⟩) ∧ (2 ≤ op ∧ op ≤ 4 → shapeOf op = ⟨true, true, false, 0⟩) ∧
    (op = 33 → shapeOf op = ⟨true, true, false, 1⟩) ∧ (op = 34 → shapeOf op = ⟨false, true, true, 1⟩) ∧ (op = 35 → shapeOf op = ⟨true, false, false, 3⟩) ∧ (op = 36 → shapeOf op = ⟨false, true, false, 3⟩) ∧ (op = 37 → shapeOf op = ⟨false, false, false, 2⟩) ∧
    (op = 38 ∨ op = 39 → shapeOf op = ⟨false, true, false, 2⟩) ∧ (40 ≤ op ∧ op ≤ 43 → shapeOf op = ⟨false, true, true, 2⟩) ∧ (op = 45 → shapeOf op = ⟨false, false, false, 0⟩) ∧ (op = 46 → shapeOf op = ⟨true, false, false, 0⟩) ∧ (op = 47 → shapeOf op = ⟨false, true, false, 0⟩) := by
  have h : op = 1 ∨ op = 2 ∨ op = 3 ∨ op = 4 ∨ op = 5 ∨ op = 6 ∨ op = 7 ∨ op = 8 ∨ op = 9 ∨ op = 10 ∨ op = 11 ∨ op = 12 ∨ op = 13 ∨ op = 14 ∨ op = 15 ∨ op = 16 ∨ op = 17 ∨ op = 18 ∨ op = 19 ∨ op = 20 ∨ op = 21 ∨ op = 22 ∨ op = 23 ∨ op = 24 ∨ op = 25 ∨ op = 26 ∨ op = 27 ∨ op = 28 ∨ op = 29 ∨ op = 30 ∨ op = 31 ∨ op = 32 ∨ op = 33 ∨ op = 34 ∨ op = 35 ∨ op = 36 ∨ op = 37 ∨ op = 38 ∨ op = 39 ∨ op = 40 ∨ op = 41 ∨ op = 42 ∨ op = 43 ∨ op = 44 ∨ op = 45 ∨ op = 46 ∨ op = 47 := by omega
  rcases h with h | h | h | h | h | h | h | h | h | h | h | h | h | h | h | h | h | h | h | h | h | h | h | h | h | h | h | h | h | h | h | h | h | h | h | h | h | h | h | h | h | h | h | h | h | h | h <;> subst h <;> (refine ⟨?_, ?_, ?_, ?_, ?_, ?_, ?_, ?_, ?_, ?_, ?_, ?_, ?_, ?_⟩ <;> intro h <;> first | rfl | (exfalso; omega))
theorem goes_same {op a b a' b' : Int} (h1 : 38 ≤ op → a = a') (h2 : 40 ≤ op → b = b') (ho : 37 ≤ op) : goesM op a b = goesM op a' b' := by
  by_cases e : op = 37
  · subst e; rfl
  have := h1 (by omega)
  subst this
  by_cases e2 : op = 38
  · subst e2; rfl
  by_cases e3 : op = 39
  · subst e3; rfl
  have := h2 (by omega)
  subst this
  rfl
theorem Agr.setFr {P Q : Nat → Prop} {c c' : Cfg} (h : Agr P Q c c') (n : Int) (h0 : 0 ≤ n) (h1 : n < 120) (x : Int) : Agr P (fun k => Q k ∨ (k : Int) = n) { c with fr := c.fr.set n.toNat x } { c' with fr := c'.fr.set n.toNat x } where
  l1 := h.l1
  l2 := h.l2
  f1 := by show (c.fr.set n.toNat x).length = 120; rw [List.length_set]; exact h.f1
  f2 := by show (c'.fr.set n.toNat x).length = 120; rw [List.length_set]; exact h.f2
  regs := h.regs
  fr := fun k hk hp => by
    show (c.fr.set n.toNat x).getD k 0 = (c'.fr.set n.toNat x).getD k 0
    rw [getD_put (by rw [h.f1]; omega), getD_put (by rw [h.f2]; omega)]
    by_cases e : k = n.toNat
    · rw [if_pos e, if_pos e]
    · rw [if_neg e, if_neg e]
      rcases hp with hp | hp
      · exact h.fr k hk hp
      · omega
  mem := h.mem
  inp := h.inp
  out := h.out
theorem Agr.monoQ {P Q Q' : Nat → Prop} {c c' : Cfg} (h : Agr P Q c c') (hp : ∀ r, r < 120 → Q' r → Q r) : Agr P Q' c c' := { h with fr := fun r h1 h2 => h.fr r h1 (hp r h1 h2) }
def Ctl.stops : Ctl → Bool
  | .stop _ _ => true
  | _ => false
set_option maxHeartbeats 400000 in
/-- An instruction does the same from two states that agree on what it reads. -/
theorem exec_rel {m : Mac} {len : Nat} (hm : MacOk m len) (h44 : m.op ≠ 44) {P Q : Nat → Prop} (hP : ∀ r, r < 16 → readsM m r = true → P r) (hQ : m.op = 35 → Q m.n.toNat) {c c' : Cfg} (h : Agr P Q c c') :
    ∃ ct c1 c1', exec m c = (ct, c1) ∧ exec m c' = (ct, c1') ∧ (ct.stops = false → Agr (fun r => P r ∨ writesM m r = true) Q c1 c1') ∧ c1.out = c1'.out := by
  obtain ⟨s1, s2, s3, s4, s5, s6, s7, s8, s9, s10, s11, s12, s13, s14⟩ := shape_at m.op hm.op1 hm.op47
  have hra : (shapeOf m.op).a = true → m.op ≠ 45 → c.reg m.a = c'.reg m.a := fun ha h45 => h.regs m.a.toNat (by have := hm.a1; omega) (hP _ (by have := hm.a1; omega) (by
    unfold readsM
    rw [if_neg h44, if_neg h45, ha]
    have := hm.a0
    simp
    exact .inl (by omega)))
  have hrb : (shapeOf m.op).b = true → m.op ≠ 45 → c.reg m.b = c'.reg m.b := fun ha h45 => h.regs m.b.toNat (by have := hm.b1; omega) (hP _ (by have := hm.b1; omega) (by
    unfold readsM
    rw [if_neg h44, if_neg h45, ha]
    have := hm.b0
    simp
    exact .inr (by omega)))
  have hw : (shapeOf m.op).d = true → ∀ x, Agr (fun r => P r ∨ writesM m r = true) Q (c.put m.dst x) (c'.put m.dst x) := fun hd x => (h.put m.dst hm.dst0 hm.dst1 x).mono fun r _ hr => by
    rcases hr with hr | hr
    · exact .inl hr
    · right
      unfold writesM at hr
      rw [if_neg h44, hd] at hr
      simp at hr
      exact hr.symm
  have hnow : (shapeOf m.op).d = false → ∀ {c c' : Cfg}, Agr P Q c c' → Agr (fun r => P r ∨ writesM m r = true) Q c c' := fun hd _ _ h => h.mono fun r _ hr => by
    rcases hr with hr | hr
    · exact hr
    · unfold writesM at hr
      rw [if_neg h44, hd] at hr
      cases hr
  have hfits : ∀ n, c.fits n = c'.fits n := fun n => by unfold Cfg.fits; rw [h.mem]
  unfold exec
  by_cases hA : 5 ≤ m.op ∧ m.op ≤ 18
  · rw [if_pos hA, if_pos hA]
    have hs := s1 hA
    rw [hra (by rw [hs]) (by omega), hrb (by rw [hs]) (by omega)]
    cases twoI (m.op - 3) (c'.reg m.a) (c'.reg m.b) with
    | none => exact ⟨_, _, _, rfl, rfl, fun e => by simp [Ctl.stops] at e, h.out⟩
    | some x => exact ⟨_, _, _, rfl, rfl, fun _ => hw (by rw [hs]) x, h.out⟩
  rw [if_neg hA, if_neg hA]
  by_cases hB : 19 ≤ m.op ∧ m.op ≤ 32
  · rw [if_pos hB, if_pos hB]
    have hs := s2 hB
    rw [hra (by rw [hs]) (by omega)]
    cases twoI (m.op - 17) (c'.reg m.a) m.n with
    | none => exact ⟨_, _, _, rfl, rfl, fun e => by simp [Ctl.stops] at e, h.out⟩
    | some x => exact ⟨_, _, _, rfl, rfl, fun _ => hw (by rw [hs]) x, h.out⟩
  rw [if_neg hB, if_neg hB]
  by_cases hC : 37 ≤ m.op ∧ m.op ≤ 43
  · rw [if_pos hC, if_pos hC]
    have hd : (shapeOf m.op).d = false := by
      rcases (show m.op = 37 ∨ (m.op = 38 ∨ m.op = 39) ∨ (40 ≤ m.op ∧ m.op ≤ 43) from by omega) with e | e | e
      · rw [s9 e]
      · rw [s10 e]
      · rw [s11 e]
    have hg : goesM m.op (c.reg m.a) (c.reg m.b) = goesM m.op (c'.reg m.a) (c'.reg m.b) := goes_same (fun e => hra (by
      rcases (show (m.op = 38 ∨ m.op = 39) ∨ (40 ≤ m.op ∧ m.op ≤ 43) from by omega) with e | e
      · rw [s10 e]
      · rw [s11 e]) (by omega)) (fun e => hrb (by rw [s11 ⟨e, hC.2⟩]) (by omega)) hC.1
    rw [hg]
    cases goesM m.op (c'.reg m.a) (c'.reg m.b) with
    | true => exact ⟨_, _, _, rfl, rfl, fun _ => hnow hd h, h.out⟩
    | false => exact ⟨_, _, _, rfl, rfl, fun _ => hnow hd h, h.out⟩
  rw [if_neg hC, if_neg hC]
  by_cases k1 : m.op = 1
  · rw [if_pos k1, if_pos k1]
    exact ⟨_, _, _, rfl, rfl, fun _ => hw (by rw [s3 k1]) _, h.out⟩
  rw [if_neg k1, if_neg k1]
  by_cases k2 : m.op = 2
  · rw [if_pos k2, if_pos k2, hra (by rw [s4 (by omega)]) (by omega)]
    exact ⟨_, _, _, rfl, rfl, fun _ => hw (by rw [s4 (by omega)]) _, h.out⟩
  rw [if_neg k2, if_neg k2]
  by_cases k3 : m.op = 3
  · rw [if_pos k3, if_pos k3, hra (by rw [s4 (by omega)]) (by omega)]
    exact ⟨_, _, _, rfl, rfl, fun _ => hw (by rw [s4 (by omega)]) _, h.out⟩
  rw [if_neg k3, if_neg k3]
  by_cases k4 : m.op = 4
  · rw [if_pos k4, if_pos k4, hra (by rw [s4 (by omega)]) (by omega)]
    exact ⟨_, _, _, rfl, rfl, fun _ => hw (by rw [s4 (by omega)]) _, h.out⟩
  rw [if_neg k4, if_neg k4]
  by_cases k33 : m.op = 33
  · rw [if_pos k33, if_pos k33, hra (by rw [s5 k33]) (by omega), hfits, h.mem]
    cases c'.fits (wrap64 (c'.reg m.a + m.n)) with
    | true => exact ⟨_, _, _, rfl, rfl, fun _ => hw (by rw [s5 k33]) _, h.out⟩
    | false => exact ⟨_, _, _, rfl, rfl, fun e => by simp [Ctl.stops] at e, h.out⟩
  rw [if_neg k33, if_neg k33]
  by_cases k34 : m.op = 34
  · rw [if_pos k34, if_pos k34, hra (by rw [s6 k34]) (by omega), hrb (by rw [s6 k34]) (by omega), hfits, h.mem]
    cases c'.fits (wrap64 (c'.reg m.a + m.n)) with
    | true => exact ⟨_, _, _, rfl, rfl, fun _ => hnow (by rw [s6 k34]) ⟨h.l1, h.l2, h.f1, h.f2, h.regs, h.fr, rfl, h.inp, h.out⟩, h.out⟩
    | false => exact ⟨_, _, _, rfl, rfl, fun e => by simp [Ctl.stops] at e, h.out⟩
  rw [if_neg k34, if_neg k34]
  by_cases k35 : m.op = 35
  · have hb := hm.word (.inl k35)
    rw [if_pos k35, if_pos k35, h.fr m.n.toNat (by omega) (hQ k35)]
    exact ⟨_, _, _, rfl, rfl, fun _ => hw (by rw [s7 k35]) _, h.out⟩
  rw [if_neg k35, if_neg k35]
  by_cases k36 : m.op = 36
  · have hb := hm.word (.inr k36)
    rw [if_pos k36, if_pos k36, hra (by rw [s8 k36]) (by omega)]
    exact ⟨_, _, _, rfl, rfl, fun _ => hnow (by rw [s8 k36]) ((h.setFr m.n hb.1 hb.2 _).monoQ fun r _ hr => .inl hr), h.out⟩
  rw [if_neg k36, if_neg k36]
  by_cases k45 : m.op = 45
  · have h0 : c.reg 0 = c'.reg 0 := h.regs 0 (by omega) (hP 0 (by omega) (by unfold readsM; rw [if_neg h44, if_pos k45]; simp))
    rw [if_pos k45, if_pos k45, h0]
    exact ⟨_, _, _, rfl, rfl, fun e => by simp [Ctl.stops] at e, h.out⟩
  rw [if_neg k45, if_neg k45]
  by_cases k46 : m.op = 46
  · rw [if_pos k46, if_pos k46, h.inp]
    cases hi : c'.inp with
    | nil => exact ⟨_, _, _, rfl, rfl, fun _ => hw (by rw [s13 k46]) _, h.out⟩
    | cons x l => exact ⟨_, _, _, rfl, rfl, fun _ => by
        have := hw (by rw [s13 k46]) x
        exact ⟨this.l1, this.l2, this.f1, this.f2, this.regs, this.fr, this.mem, rfl, this.out⟩, h.out⟩
  rw [if_neg k46, if_neg k46]
  have k47 : m.op = 47 := by
    have h1 := hm.op1
    have h2 := hm.op47
    clear s1 s2 s3 s4 s5 s6 s7 s8 s9 s10 s11 s12 s13 s14 hra hrb hw hnow hfits
    have e0 : 5 ≤ m.op := by clear hA hB hC h44 k33 k34 k35 k36 k45 k46; omega
    have e1 : 33 ≤ m.op := by clear hC h44 k1 k2 k3 k4 k33 k34 k35 k36 k45 k46; omega
    have e2 : 37 ≤ m.op := by clear hA hB hC h44 k1 k2 k3 k4 k45 k46; omega
    clear hA hB k1 k2 k3 k4 k33 k34 k35 k36
    omega
  rewrite [if_pos k47, if_pos k47, hra (by rw [s14 k47]) (by omega)]
  by_cases ho : c'.out.length = 200
  · have ho' : c.out.length = 200 := by rw [h.out]; exact ho
    rw [if_pos ho', if_pos ho]
    exact ⟨_, _, _, rfl, rfl, fun e => by simp [Ctl.stops] at e, h.out⟩
  · have ho' : ¬ c.out.length = 200 := by rw [h.out]; exact ho
    have ho2 : c.out ++ [c'.reg m.a] = c'.out ++ [c'.reg m.a] := by rw [h.out]
    rw [if_neg ho', if_neg ho]
    exact ⟨_, _, _, rfl, rfl, fun _ => hnow (by rw [s14 k47]) ⟨h.l1, h.l2, h.f1, h.f2, h.regs, h.fr, h.mem, h.inp, ho2⟩, ho2⟩
end Go.Proofs.YtkcmijnaheapdaaDoor
