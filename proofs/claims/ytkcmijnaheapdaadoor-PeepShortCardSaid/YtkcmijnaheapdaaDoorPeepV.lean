/- Each rule of peep leaves code that ends as the code was to end, in as few steps, plainly. -/
import Derived.Test.YtkcmijnaheapdaaDoorPeepU
namespace Go.Proofs.YtkcmijnaheapdaaDoor
open Go.RowKit
set_option linter.unusedSimpArgs false
set_option linter.unusedVariables false

/-- A state as the machine has it. -/
structure CfgOk (c : Cfg) : Prop where
  l1 : c.regs.length = 16
  f1 : c.fr.length = 120
def N64 (x : Int) : Prop := -9223372036854775808 ≤ x ∧ x ≤ 9223372036854775807
structure CfgIn (c : Cfg) : Prop where
  regs : ∀ x ∈ c.regs, N64 x
  fr : ∀ x ∈ c.fr, N64 x
  mem : ∀ x ∈ c.mem, N64 x
  inp : ∀ x ∈ c.inp, N64 x
abbrev allP : Nat → Prop := fun _ => True
abbrev allPP : Nat → Nat → Prop := fun _ _ => True
theorem CfgOk.agr {c : Cfg} (h : CfgOk c) (P Q : Nat → Prop) : Agr P Q c c := ⟨h.l1, h.l1, h.f1, h.f1, fun _ _ _ => rfl, fun _ _ _ => rfl, rfl, rfl, rfl⟩
theorem exec_len {m : Mac} {len : Nat} (hm : MacOk m len) (h44 : m.op ≠ 44) {c c1 : Cfg} {ct : Ctl} (h : CfgOk c) (he : exec m c = (ct, c1)) (hs : ct.stops = false) : CfgOk c1 := by
  obtain ⟨ct', c2, c1', e1, e2, e3, e4⟩ := exec_rel hm h44 (P := allP) (Q := allP) (fun _ _ _ => trivial) (fun _ => trivial) (h.agr _ _)
  rw [he] at e1
  cases e1
  have := e3 hs
  exact ⟨this.l1, this.f1⟩
theorem next_stops {ct : Ctl} {k k' : Nat} (h : (ct = .fall ∧ k' = k + 1) ∨ ct = .jump k') : ct.stops = false := by
  rcases h with ⟨rfl, _⟩ | rfl <;> rfl
theorem put_self {c : Cfg} (h : c.regs.length = 16) {d : Int} (h0 : 0 ≤ d) (h1 : d ≤ 15) : c.put d (c.reg d) = c := by
  obtain ⟨regs, fr, mem, inp, out⟩ := c
  show (⟨regs.set d.toNat (regs.getD d.toNat 0), fr, mem, inp, out⟩ : Cfg) = _
  have : regs.set d.toNat (regs.getD d.toNat 0) = regs := by
    apply List.ext_getElem?
    intro j
    rw [List.getElem?_set]
    by_cases e : d.toNat = j
    · subst e
      rw [if_pos rfl]
      have hl : d.toNat < regs.length := by simp only at h; omega
      rw [if_pos hl, List.getD_eq_getElem?_getD, List.getElem?_eq_getElem hl]
      rfl
    · rw [if_neg e]
  rw [this]
theorem reg_put {c : Cfg} (h : c.regs.length = 16) {d r : Int} (h0 : 0 ≤ d) (h1 : d ≤ 15) (h2 : 0 ≤ r) (x : Int) : (c.put d x).reg r = if r = d then x else c.reg r := by
  show (c.regs.set d.toNat x).getD r.toNat 0 = _
  rw [getD_put (by omega)]
  by_cases e : r = d
  · rw [if_pos (by rw [e]), if_pos e]
  · rw [if_neg (by omega), if_neg e]
    rfl
theorem exec_move {m : Mac} (h : m.op = 2) (c : Cfg) : exec m c = (.fall, c.put m.dst (c.reg m.a)) := by
  unfold exec
  rw [if_neg (by omega), if_neg (by omega), if_neg (by omega), if_neg (by omega), if_pos h]
theorem exec_setN {m : Mac} (h : m.op = 1) (c : Cfg) : exec m c = (.fall, c.put m.dst m.n) := by
  unfold exec
  rw [if_neg (by omega), if_neg (by omega), if_neg (by omega), if_pos h]
theorem exec_get {m : Mac} (h : m.op = 35) (c : Cfg) : exec m c = (.fall, c.put m.dst (c.fr.getD m.n.toNat 0)) := by
  unfold exec
  rw [if_neg (by omega), if_neg (by omega), if_neg (by omega), if_neg (by omega), if_neg (by omega), if_neg (by omega), if_neg (by omega), if_neg (by omega), if_neg (by omega), if_pos h]
theorem exec_put {m : Mac} (h : m.op = 36) (c : Cfg) : exec m c = (.fall, { c with fr := c.fr.set m.n.toNat (c.reg m.a) }) := by
  unfold exec
  rw [if_neg (by omega), if_neg (by omega), if_neg (by omega), if_neg (by omega), if_neg (by omega), if_neg (by omega), if_neg (by omega), if_neg (by omega), if_neg (by omega), if_neg (by omega), if_pos h]
theorem twoI_some {op a b : Int} (h : op ≠ 5 ∧ op ≠ 6 ∨ b ≠ 0) : ∃ x, twoI op a b = some x := by
  unfold twoI
  by_cases e2 : op = 2
  · rw [if_pos e2]; exact ⟨_, rfl⟩
  rw [if_neg e2]
  by_cases e3 : op = 3
  · rw [if_pos e3]; exact ⟨_, rfl⟩
  rw [if_neg e3]
  by_cases e4 : op = 4
  · rw [if_pos e4]; exact ⟨_, rfl⟩
  rw [if_neg e4]
  by_cases e5 : op = 5
  · rw [if_pos e5, if_neg (by omega)]; exact ⟨_, rfl⟩
  rw [if_neg e5]
  by_cases e6 : op = 6
  · rw [if_pos e6, if_neg (by omega)]; exact ⟨_, rfl⟩
  rw [if_neg e6]
  by_cases e7 : op = 7
  · rw [if_pos e7]; exact ⟨_, rfl⟩
  rw [if_neg e7]
  by_cases e8 : op = 8
  · rw [if_pos e8]; exact ⟨_, rfl⟩
  rw [if_neg e8]
  by_cases e9 : op = 9
  · rw [if_pos e9]; exact ⟨_, rfl⟩
  rw [if_neg e9]
  by_cases e10 : op = 10
  · rw [if_pos e10]; exact ⟨_, rfl⟩
  rw [if_neg e10]
  by_cases e11 : op = 11
  · rw [if_pos e11]; exact ⟨_, rfl⟩
  rw [if_neg e11]
  by_cases e12 : op = 12
  · rw [if_pos e12]; exact ⟨_, rfl⟩
  rw [if_neg e12]
  by_cases e13 : op = 13
  · rw [if_pos e13]; exact ⟨_, rfl⟩
  rw [if_neg e13]
  by_cases e14 : op = 14
  · rw [if_pos e14]; exact ⟨_, rfl⟩
  rw [if_neg e14]
  exact ⟨_, rfl⟩
theorem quiet_exec {m : Mac} (h : quietM m = true) (c : Cfg) : ∃ x, exec m c = (.fall, c.put m.dst x) := by
  unfold quietM at h
  split at h
  · rename_i h1
    have : m.op = 1 ∨ m.op = 2 ∨ m.op = 3 ∨ m.op = 4 := by omega
    rcases this with e | e | e | e
    · exact ⟨_, exec_setN e c⟩
    · exact ⟨_, exec_move e c⟩
    · unfold exec
      rw [if_neg (by omega), if_neg (by omega), if_neg (by omega), if_neg (by omega), if_neg (by omega), if_pos e]
      exact ⟨_, rfl⟩
    · unfold exec
      rw [if_neg (by omega), if_neg (by omega), if_neg (by omega), if_neg (by omega), if_neg (by omega), if_neg (by omega), if_pos e]
      exact ⟨_, rfl⟩
  split at h
  · rename_i h1
    exact ⟨_, exec_get h1 c⟩
  split at h
  · rename_i h1
    simp at h
    obtain ⟨x, hx⟩ := twoI_some (op := m.op - 17) (a := c.reg m.a) (b := m.n) (.inr h)
    unfold exec
    rw [if_neg (by omega), if_pos (by omega), hx]
    exact ⟨_, rfl⟩
  · rename_i h1
    simp at h
    by_cases hA : m.op ≤ 18
    · obtain ⟨x, hx⟩ := twoI_some (op := m.op - 3) (a := c.reg m.a) (b := c.reg m.b) (.inl (by omega))
      unfold exec
      rw [if_pos (by omega), hx]
      exact ⟨_, rfl⟩
    · obtain ⟨x, hx⟩ := twoI_some (op := m.op - 17) (a := c.reg m.a) (b := m.n) (.inl (by omega))
      unfold exec
      rw [if_neg (by omega), if_pos (by omega), hx]
      exact ⟨_, rfl⟩
theorem quiet_writes {m : Mac} {len : Nat} (hm : MacOk m len) (h : quietM m = true) (r : Nat) : writesM m r = decide (m.dst = (r : Int)) := by
  obtain ⟨s1, s2, s3, s4, s5, s6, s7, s8, s9, s10, s11, s12, s13, s14⟩ := shape_at m.op hm.op1 hm.op47
  have hop : (1 ≤ m.op ∧ m.op ≤ 32) ∨ m.op = 35 := by
    unfold quietM at h
    split at h
    · omega
    split at h
    · omega
    split at h
    · omega
    · simp at h; omega
  have hd : (shapeOf m.op).d = true := by
    rcases (show (5 ≤ m.op ∧ m.op ≤ 18) ∨ (19 ≤ m.op ∧ m.op ≤ 32) ∨ m.op = 1 ∨ (2 ≤ m.op ∧ m.op ≤ 4) ∨ m.op = 35 from by omega) with e | e | e | e | e
    · rw [s1 e]
    · rw [s2 e]
    · rw [s3 e]
    · rw [s4 e]
    · rw [s7 e]
  unfold writesM
  rw [if_neg (by omega), hd, Bool.true_and]

theorem means_lost {l : List Mac} (h : Lone l) {i : Nat} (hi : i < l.length) (hn : ¬ Reach l i) {k : Nat} {c : Cfg} {O : Oc} (hc : CfgOk c) (hE : Ends l 0 c k O) : ∃ k', k' ≤ k ∧ Ends (goneL l i) 0 c k' O :=
  sim_gone h hi allPP allP (fun k _ => Reach l k) (fun _ _ _ _ _ _ => trivial) (fun _ _ _ _ => trivial) (fun _ _ _ _ _ _ _ => .inl trivial)
    (fun k k' c ct c1 hk _ hj he hg => by
      obtain ⟨h1, h2⟩ := h.goes hk he hg
      exact .next hj h2 h1)
    (fun c c' ct c1 hj => absurd hj hn) .first (hc.agr _ _) hE
theorem means_itself {l : List Mac} (h : Lone l) {i : Nat} (hi : i < l.length) (h2 : (atL l i).op = 2) (hd : (atL l i).dst = (atL l i).a) {k : Nat} {c : Cfg} {O : Oc} (hc : CfgOk c) (hE : Ends l 0 c k O) : ∃ k', k' ≤ k ∧ Ends (goneL l i) 0 c k' O := by
  have hm := (h.at_ hi).1
  exact sim_gone h hi allPP allP (fun _ _ => True) (fun _ _ _ _ _ _ => trivial) (fun _ _ _ _ => trivial) (fun _ _ _ _ _ _ _ => .inl trivial) (fun _ _ _ _ _ _ _ _ _ _ => trivial)
    (fun c c' ct c1 _ ha he => by
      rw [exec_move h2] at he
      cases he
      rw [← hd, put_self ha.l1 hm.dst0 hm.dst1]
      exact ⟨op_not_last h.ok hi (by omega) (by omega), .inl rfl, ha⟩) trivial (hc.agr _ _) hE
theorem means_short {l : List Mac} (h : Lone l) {i : Nat} (hi : i < l.length) (hj : jumpsM (atL l i) = true) (hn : (atL l i).n = (i : Int) + 1) {k : Nat} {c : Cfg} {O : Oc} (hc : CfgOk c) (hE : Ends l 0 c k O) : ∃ k', k' ≤ k ∧ Ends (goneL l i) 0 c k' O := by
  have hm := (h.at_ hi).1
  have hb := hm.jump (jumps_op.1 hj).1 (jumps_op.1 hj).2
  exact sim_gone h hi allPP allP (fun _ _ => True) (fun _ _ _ _ _ _ => trivial) (fun _ _ _ _ => trivial) (fun _ _ _ _ _ _ _ => .inl trivial) (fun _ _ _ _ _ _ _ _ _ _ => trivial)
    (fun c c' ct c1 _ ha he => by
      rw [exec_of_jump hj] at he
      refine ⟨by omega, ?_⟩
      split at he
      · cases he
        exact ⟨.inr (by rw [hn]; congr 1), ha⟩
      · cases he
        exact ⟨.inl rfl, ha⟩) trivial (hc.agr _ _) hE
theorem means_vain {l : List Mac} (h : Lone l) {i : Nat} (hi : i < l.length) (hq : quietM (atL l i) = true) (hn : ¬ behindP l i (atL l i).dst.toNat) {k : Nat} {c : Cfg} {O : Oc} (hc : CfgOk c) (hE : Ends l 0 c k O) : ∃ k', k' ≤ k ∧ Ends (goneL l i) 0 c k' O := by
  have hm := (h.at_ hi).1
  have ho := quiet_op hq
  have hl := op_not_last h.ok hi ho.1 ho.2
  have hst : stepsTo l i (i + 1) := ⟨hi, .inl ⟨ho.2, ho.1, rfl⟩⟩
  exact sim_gone h hi (fun k r => Live l r k) allP (fun _ _ => True) (fun k hk _ r _ hr => .use hk hr) (fun _ _ _ _ => trivial)
    (fun k k' _ hs r _ hL => by
      cases hw : writesM (atL l k) r
      · exact .inl (.via hs.1 hw hs hL)
      · exact .inr rfl) (fun _ _ _ _ _ _ _ _ _ _ => trivial)
    (fun c c' ct c1 _ ha he => by
      obtain ⟨x, hx⟩ := quiet_exec hq c
      rw [hx] at he
      cases he
      refine ⟨hl, .inl rfl, ?_, ha.l2, ha.f1, ha.f2, fun r hr hL => ?_, fun w hw _ => ha.fr w hw trivial, ha.mem, ha.inp, ha.out⟩
      · show (c.regs.set _ _).length = 16
        rw [List.length_set]; exact ha.l1
      · have hne : r ≠ (atL l i).dst.toNat := fun e => hn ⟨i + 1, hst, by rw [← e]; exact hL⟩
        show (c.regs.set (atL l i).dst.toNat x).getD r 0 = _
        rw [getD_put (by have := hm.dst1; have := ha.l1; omega), if_neg hne]
        refine ha.regs r hr (.via hi ?_ hst hL)
        rw [quiet_writes hm hq]
        have := hm.dst0
        simp
        omega) trivial (hc.agr _ _) hE
theorem means_unread {l : List Mac} (h : Lone l) {i : Nat} (hi : i < l.length) (h36 : (atL l i).op = 36) (hn : getB l (atL l i).n = false) {k : Nat} {c : Cfg} {O : Oc} (hc : CfgOk c) (hE : Ends l 0 c k O) : ∃ k', k' ≤ k ∧ Ends (goneL l i) 0 c k' O := by
  have hm := (h.at_ hi).1
  have hb := hm.word (.inr h36)
  exact sim_gone h hi allPP (fun w => ∃ o ∈ l, o.op = 35 ∧ o.n.toNat = w) (fun _ _ => True) (fun _ _ _ _ _ _ => trivial) (fun k hk _ h35 => ⟨_, atL_in hk, h35, rfl⟩) (fun _ _ _ _ _ _ _ => .inl trivial) (fun _ _ _ _ _ _ _ _ _ _ => trivial)
    (fun c c' ct c1 _ ha he => by
      rw [exec_put h36] at he
      cases he
      refine ⟨op_not_last h.ok hi (by omega) (by omega), .inl rfl, ha.l1, ha.l2, ?_, ha.f2, fun r hr _ => ha.regs r hr trivial, fun w hw hQ => ?_, ha.mem, ha.inp, ha.out⟩
      · show (c.fr.set _ _).length = 120
        rw [List.length_set]; exact ha.f1
      · have hne : w ≠ (atL l i).n.toNat := fun e => by
          obtain ⟨o, ho, h35, he⟩ := hQ
          have hw' := (macF_ok (h.ok.fine o ho)).word (.inl h35)
          unfold getB at hn
          rw [List.any_eq_false] at hn
          exact hn o ho (by simp [h35]; omega)
        show (c.fr.set (atL l i).n.toNat _).getD w 0 = _
        rw [getD_put (by rw [ha.f1]; omega), if_neg hne]
        exact ha.fr w hw hQ) trivial (hc.agr _ _) hE
/-- What holds behind an instruction that alone leads to the next one. -/
theorem beside_from {l : List Mac} (h : Lone l) {i : Nat} (hb : besideP l i) {k : Nat} {c c1 : Cfg} {ct : Ctl} (hk : k < l.length) (he : exec (atL l k) c = (ct, c1)) (hg : (ct = .fall ∧ i + 1 = k + 1) ∨ ct = .jump (i + 1)) : k = i ∧ ct = .fall := by
  rcases hg with ⟨rfl, e⟩ | rfl
  · exact ⟨by omega, rfl⟩
  · obtain ⟨hj, hn, _⟩ := exec_jump he
    have := (h.at_ hk).1.jump (jumps_op.1 hj).1 (jumps_op.1 hj).2
    exact absurd ⟨k, hk, hj, by omega⟩ hb.2.2.2
theorem means_back {l : List Mac} (h : Lone l) {i : Nat} (hb : besideP l i) (h2 : (atL l i).op = 2) (ho : atL l (i + 1) = ⟨2, (atL l i).a, (atL l i).dst, 0, 0⟩) {k : Nat} {c : Cfg} {O : Oc} (hc : CfgOk c) (hE : Ends l 0 c k O) : ∃ k', k' ≤ k ∧ Ends (goneL l (i + 1)) 0 c k' O := by
  have hi : i < l.length := by have := hb.1; omega
  have hm := (h.at_ hi).1
  have h2' : (atL l (i + 1)).op = 2 := by rw [ho]
  exact sim_gone h hb.1 allPP allP (fun k c => k = i + 1 → c.reg (atL l i).a = c.reg (atL l i).dst) (fun _ _ _ _ _ _ => trivial) (fun _ _ _ _ => trivial) (fun _ _ _ _ _ _ _ => .inl trivial)
    (fun k k' c ct c1 hk hlen _ he hg e => by
      subst e
      obtain ⟨rfl, rfl⟩ := beside_from h hb hk he hg
      rw [exec_move h2] at he
      cases he
      rw [reg_put hlen hm.dst0 hm.dst1 hm.a0, reg_put hlen hm.dst0 hm.dst1 hm.dst0, if_pos rfl]
      split <;> rfl)
    (fun c c' ct c1 hj ha he => by
      rw [exec_move h2', ho] at he
      cases he
      have := hj rfl
      rw [← this, put_self ha.l1 hm.a0 hm.a1]
      exact ⟨op_not_last h.ok hb.1 (by omega) (by omega), .inl rfl, ha⟩) (fun e => by omega) (hc.agr _ _) hE
theorem means_sureNo {l : List Mac} (h : Lone l) {i : Nat} (hb : besideP l i) (h1 : (atL l i).op = 1) (ho : asksM (atL l (i + 1)) (atL l i).dst = true) (hs : (decide ((atL l i).n = 0) == decide ((atL l (i + 1)).op = 38)) = true)
    {k : Nat} {c : Cfg} {O : Oc} (hc : CfgOk c) (hE : Ends l 0 c k O) : ∃ k', k' ≤ k ∧ Ends (goneL l (i + 1)) 0 c k' O := by
  have hi : i < l.length := by have := hb.1; omega
  have hm := (h.at_ hi).1
  obtain ⟨ho1, ho2⟩ := asks_op ho
  exact sim_gone h hb.1 allPP allP (fun k c => k = i + 1 → c.reg (atL l i).dst = (atL l i).n) (fun _ _ _ _ _ _ => trivial) (fun _ _ _ _ => trivial) (fun _ _ _ _ _ _ _ => .inl trivial)
    (fun k k' c ct c1 hk hlen _ he hg e => by
      subst e
      obtain ⟨rfl, rfl⟩ := beside_from h hb hk he hg
      rw [exec_setN h1] at he
      cases he
      rw [reg_put hlen hm.dst0 hm.dst1 hm.dst0, if_pos rfl])
    (fun c c' ct c1 hj ha he => by
      rw [exec_of_jump (jumps_op.2 (by omega)), ho2, hj rfl] at he
      have hg : goesM (atL l (i + 1)).op (atL l i).n (c.reg (atL l (i + 1)).b) = false := by
        rcases ho1 with e | e
        · rw [e] at hs ⊢
          have : (atL l i).n = 0 := by simpa using hs
          rw [this]; rfl
        · rw [e] at hs ⊢
          have : ¬ (atL l i).n = 0 := by simpa using hs
          simp [goesM, this]
      rw [hg, if_neg (by simp)] at he
      cases he
      exact ⟨op_not_last h.ok hb.1 (by omega) (by omega), .inl rfl, ha⟩) (fun e => by omega) (hc.agr _ _) hE
theorem means_sureYes {l : List Mac} (h : Lone l) {i : Nat} (hb : besideP l i) (h1 : (atL l i).op = 1) (ho : asksM (atL l (i + 1)) (atL l i).dst = true) (hs : ¬ (decide ((atL l i).n = 0) == decide ((atL l (i + 1)).op = 38)) = true)
    {k : Nat} {c : Cfg} {O : Oc} (hc : CfgOk c) (hE : Ends l 0 c k O) : ∃ k', k' ≤ k ∧ Ends (l.set (i + 1) ⟨37, 0, 0, 0, (atL l (i + 1)).n⟩) 0 c k' O := by
  have hi : i < l.length := by have := hb.1; omega
  have hm := (h.at_ hi).1
  obtain ⟨ho1, ho2⟩ := asks_op ho
  exact sim_set h hb.1 _ (fun k c => CfgOk c ∧ (k = i + 1 → c.reg (atL l i).dst = (atL l i).n))
    (fun k k' c ct c1 hk hj he hg => by
      have hm' := h.at_ hk
      refine ⟨exec_len hm'.1 hm'.2 hj.1 he (next_stops hg), fun e => ?_⟩
      subst e
      obtain ⟨rfl, rfl⟩ := beside_from h hb hk he hg
      rw [exec_setN h1] at he
      cases he
      rw [reg_put hj.1.l1 hm.dst0 hm.dst1 hm.dst0, if_pos rfl])
    (fun c hj => by
      rw [exec_of_jump (m := atL l (i + 1)) (jumps_op.2 (by omega)), ho2, hj.2 rfl]
      have hg : goesM (atL l (i + 1)).op (atL l i).n (c.reg (atL l (i + 1)).b) = true := by
        rcases ho1 with e | e
        · rw [e] at hs ⊢
          have : ¬ (atL l i).n = 0 := by simpa using hs
          simp [goesM, this]
        · rw [e] at hs ⊢
          have : (atL l i).n = 0 := by simpa using hs
          rw [this]; rfl
      rw [hg, if_pos rfl]
      rfl) ⟨hc, fun e => by omega⟩ hE
theorem means_again {l : List Mac} (h : Lone l) {i : Nat} (hb : besideP l i) (h36 : (atL l i).op = 36) (h35 : (atL l (i + 1)).op = 35) (hn : (atL l (i + 1)).n = (atL l i).n)
    {k : Nat} {c : Cfg} {O : Oc} (hc : CfgOk c) (hE : Ends l 0 c k O) : ∃ k', k' ≤ k ∧ Ends (l.set (i + 1) ⟨2, (atL l (i + 1)).dst, (atL l i).a, 0, 0⟩) 0 c k' O := by
  have hi : i < l.length := by have := hb.1; omega
  have hm := (h.at_ hi).1
  have hw := hm.word (.inr h36)
  exact sim_set h hb.1 _ (fun k c => CfgOk c ∧ (k = i + 1 → c.fr.getD (atL l i).n.toNat 0 = c.reg (atL l i).a))
    (fun k k' c ct c1 hk hj he hg => by
      have hm' := h.at_ hk
      refine ⟨exec_len hm'.1 hm'.2 hj.1 he (next_stops hg), fun e => ?_⟩
      subst e
      obtain ⟨rfl, rfl⟩ := beside_from h hb hk he hg
      rw [exec_put h36] at he
      cases he
      show (c.fr.set _ _).getD _ 0 = c.reg _
      rw [getD_put (by rw [hj.1.f1]; omega), if_pos rfl])
    (fun c hj => by
      rw [exec_get h35, exec_move rfl, hn, hj.2 rfl]) ⟨hc, fun e => by omega⟩ hE

/-! ### Numbers that fit -/
theorem n64_wrap (x : Int) : N64 (wrap64 x) := by unfold wrap64 N64; omega
theorem n64_kwrap (x : Int) : N64 (IntKind.i64.wrap x) := by rw [IntKind.wrap_i64]; unfold N64; omega
theorem n64_bits (o : BinOp) (a b : Int) : N64 (bits o .i64 a b) := n64_kwrap _
theorem n64_get {l : List Int} (h : ∀ x ∈ l, N64 x) (k : Nat) : N64 (l.getD k 0) := by
  rw [List.getD_eq_getElem?_getD]
  rcases Nat.lt_or_ge k l.length with h1 | h1
  · rw [List.getElem?_eq_getElem h1]; exact h _ (List.getElem_mem h1)
  · rw [List.getElem?_eq_none h1]; exact ⟨by decide, by decide⟩
theorem n64_tmod {a b : Int} (ha : N64 a) : N64 (a.tmod b) := by
  have h2 : (a.tmod b).natAbs ≤ a.natAbs := by
    rw [Int.natAbs_tmod]
    exact Nat.mod_le _ _
  unfold N64 at ha ⊢
  rcases Int.le_total 0 a with h0 | h0
  · have h1 := Int.tmod_nonneg b h0
    omega
  · have h3 : a.tmod b ≤ 0 := by
      have := Int.tmod_nonneg b (a := -a) (by omega)
      rw [Int.neg_tmod] at this
      omega
    omega
theorem n64_shr {a : Int} (ha : N64 a) (n : Nat) : N64 (a / 2 ^ n) := by
  have hp : (0 : Int) < 2 ^ n := Int.pow_pos (by decide)
  generalize (2 : Int) ^ n = p at hp ⊢
  unfold N64 at ha ⊢
  rcases Int.le_total 0 a with h0 | h0
  · have h1 := Int.ediv_le_self p h0
    have h2 := Int.ediv_nonneg h0 (Int.le_of_lt hp)
    omega
  · have h1 : a / p ≤ 0 := by
      have := Int.ediv_le_ediv hp h0
      rw [Int.zero_ediv] at this
      exact this
    have h2 : a ≤ a / p := by
      rw [Int.le_ediv_iff_mul_le hp]
      have h3 : a * p ≤ a * 1 := Int.mul_le_mul_of_nonpos_left h0 (by omega)
      omega
    omega
theorem n64_one {P : Prop} [Decidable P] {x y : Int} (hx : N64 x) (hy : N64 y) : N64 (if P then x else y) := by split <;> assumption
theorem n64_0 : N64 0 := ⟨by decide, by decide⟩
theorem n64_1 : N64 1 := ⟨by decide, by decide⟩
theorem n64_two {op a b x : Int} (ha : N64 a) (h : twoI op a b = some x) : N64 x := by
  unfold twoI at h
  by_cases e2 : op = 2
  · rw [if_pos e2] at h; rw [← Option.some.inj h]; exact n64_wrap _
  rw [if_neg e2] at h
  by_cases e3 : op = 3
  · rw [if_pos e3] at h; rw [← Option.some.inj h]; exact n64_wrap _
  rw [if_neg e3] at h
  by_cases e4 : op = 4
  · rw [if_pos e4] at h; rw [← Option.some.inj h]; exact n64_wrap _
  rw [if_neg e4] at h
  by_cases e5 : op = 5
  · rw [if_pos e5] at h
    by_cases hb : b = 0
    · rw [if_pos hb] at h; cases h
    · rw [if_neg hb] at h; rw [← Option.some.inj h]; exact n64_wrap _
  rw [if_neg e5] at h
  by_cases e6 : op = 6
  · rw [if_pos e6] at h
    by_cases hb : b = 0
    · rw [if_pos hb] at h; cases h
    · rw [if_neg hb] at h; rw [← Option.some.inj h]; exact n64_tmod ha
  rw [if_neg e6] at h
  by_cases e7 : op = 7
  · rw [if_pos e7] at h; rw [← Option.some.inj h]; exact n64_bits _ _ _
  rw [if_neg e7] at h
  by_cases e8 : op = 8
  · rw [if_pos e8] at h; rw [← Option.some.inj h]; exact n64_bits _ _ _
  rw [if_neg e8] at h
  by_cases e9 : op = 9
  · rw [if_pos e9] at h; rw [← Option.some.inj h]; exact n64_bits _ _ _
  rw [if_neg e9] at h
  by_cases e10 : op = 10
  · rw [if_pos e10] at h; rw [← Option.some.inj h]; exact n64_wrap _
  rw [if_neg e10] at h
  by_cases e11 : op = 11
  · rw [if_pos e11] at h; rw [← Option.some.inj h]; exact n64_shr ha _
  rw [if_neg e11] at h
  by_cases e12 : op = 12
  · rw [if_pos e12] at h; rw [← Option.some.inj h]; exact n64_one n64_1 n64_0
  rw [if_neg e12] at h
  by_cases e13 : op = 13
  · rw [if_pos e13] at h; rw [← Option.some.inj h]; exact n64_one n64_0 n64_1
  rw [if_neg e13] at h
  by_cases e14 : op = 14
  · rw [if_pos e14] at h; rw [← Option.some.inj h]; exact n64_one n64_1 n64_0
  rw [if_neg e14] at h
  rw [← Option.some.inj h]
  exact n64_one n64_1 n64_0
theorem CfgIn.put {c : Cfg} (h : CfgIn c) (d : Int) {x : Int} (hx : N64 x) : CfgIn (c.put d x) :=
  ⟨fun y hy => by
    rcases List.mem_or_eq_of_mem_set hy with e | e
    · exact h.regs y e
    · rw [e]; exact hx, h.fr, h.mem, h.inp⟩
theorem CfgIn.reg {c : Cfg} (h : CfgIn c) (r : Int) : N64 (c.reg r) := n64_get h.regs _
theorem exec_in {m : Mac} {c c1 : Cfg} {ct : Ctl} (hn : N64 m.n) (h : CfgIn c) (he : exec m c = (ct, c1)) : CfgIn c1 := by
  unfold exec at he
  by_cases hA : 5 ≤ m.op ∧ m.op ≤ 18
  · rw [if_pos hA] at he
    cases hx : twoI (m.op - 3) (c.reg m.a) (c.reg m.b) with
    | none => rw [hx] at he; cases he; exact h
    | some x => rw [hx] at he; cases he; exact h.put _ (n64_two (h.reg _) hx)
  rw [if_neg hA] at he
  by_cases hB : 19 ≤ m.op ∧ m.op ≤ 32
  · rw [if_pos hB] at he
    cases hx : twoI (m.op - 17) (c.reg m.a) m.n with
    | none => rw [hx] at he; cases he; exact h
    | some x => rw [hx] at he; cases he; exact h.put _ (n64_two (h.reg _) hx)
  rw [if_neg hB] at he
  by_cases hC : 37 ≤ m.op ∧ m.op ≤ 43
  · rw [if_pos hC] at he
    split at he
    · cases he; exact h
    · cases he; exact h
  rw [if_neg hC] at he
  by_cases k1 : m.op = 1
  · rw [if_pos k1] at he; cases he; exact h.put _ hn
  rw [if_neg k1] at he
  by_cases k2 : m.op = 2
  · rw [if_pos k2] at he; cases he; exact h.put _ (h.reg _)
  rw [if_neg k2] at he
  by_cases k3 : m.op = 3
  · rw [if_pos k3] at he; cases he; exact h.put _ (n64_wrap _)
  rw [if_neg k3] at he
  by_cases k4 : m.op = 4
  · rw [if_pos k4] at he; cases he; exact h.put _ (n64_bits _ _ _)
  rw [if_neg k4] at he
  by_cases k33 : m.op = 33
  · rw [if_pos k33] at he
    split at he
    · cases he; exact h.put _ (n64_get h.mem _)
    · cases he; exact h
  rw [if_neg k33] at he
  by_cases k34 : m.op = 34
  · rw [if_pos k34] at he
    split at he
    · cases he
      exact ⟨h.regs, h.fr, fun y hy => by
        rcases List.mem_or_eq_of_mem_set hy with e | e
        · exact h.mem y e
        · rw [e]; exact h.reg _, h.inp⟩
    · cases he; exact h
  rw [if_neg k34] at he
  by_cases k35 : m.op = 35
  · rw [if_pos k35] at he; cases he; exact h.put _ (n64_get h.fr _)
  rw [if_neg k35] at he
  by_cases k36 : m.op = 36
  · rw [if_pos k36] at he
    cases he
    exact ⟨h.regs, fun y hy => by
      rcases List.mem_or_eq_of_mem_set hy with e | e
      · exact h.fr y e
      · rw [e]; exact h.reg _, h.mem, h.inp⟩
  rw [if_neg k36] at he
  by_cases k45 : m.op = 45
  · rw [if_pos k45] at he; cases he; exact h
  rw [if_neg k45] at he
  by_cases k46 : m.op = 46
  · rw [if_pos k46] at he
    cases hi : c.inp with
    | nil => rw [hi] at he; cases he; exact h.put _ ⟨by decide, by decide⟩
    | cons x l =>
      rw [hi] at he
      cases he
      have hx : N64 x := h.inp x (by rw [hi]; simp)
      have := h.put m.dst hx
      exact ⟨this.regs, this.fr, this.mem, fun y hy => h.inp y (by rw [hi]; simp [hy])⟩
  rw [if_neg k46] at he
  by_cases k47 : m.op = 47
  · rw [if_pos k47] at he
    split at he
    · cases he; exact h
    · cases he; exact ⟨h.regs, h.fr, h.mem, h.inp⟩
  rw [if_neg k47] at he
  cases he
  exact h
theorem ofInt64 {a : Int} (ha : N64 a) : IntKind.i64.wrap ((BitVec.ofInt 64 a).toNat : Nat) = a := by
  rw [IntKind.wrap_i64, BitVec.toNat_ofInt]
  unfold N64 at ha
  omega
theorem or_nought {a : Int} (ha : N64 a) : bits .or .i64 a 0 = a := by
  have e : bits .or .i64 a 0 = IntKind.i64.wrap ((BitVec.ofInt 64 a ||| 0#64).toNat : Nat) := rfl
  rw [e, BitVec.or_zero, ofInt64 ha]
theorem xor_nought {a : Int} (ha : N64 a) : bits .xor .i64 a 0 = a := by
  have e : bits .xor .i64 a 0 = IntKind.i64.wrap ((BitVec.ofInt 64 a ^^^ 0#64).toNat : Nat) := rfl
  rw [e, BitVec.xor_zero, ofInt64 ha]
theorem wrap_id {a : Int} (ha : N64 a) : wrap64 a = a := by unfold wrap64; unfold N64 at ha; omega
/-- What an idle instruction does. -/
theorem idle_exec {m : Mac} (h : idleM m = true) {c : Cfg} (hc : CfgIn c) : exec m c = (.fall, c.put m.dst (c.reg m.a)) := by
  obtain ⟨_, _, _, h19, h28⟩ := idle_op h
  have ha := hc.reg m.a
  have hx : twoI (m.op - 17) (c.reg m.a) m.n = some (c.reg m.a) := by
    have hz : (bits .and .i64 0 63).toNat = 0 := by rfl
    unfold idleM at h
    split at h
    · rename_i ho
      have hn : m.n = 1 := by simpa using h
      rw [hn]
      rcases ho with e | e
      · rw [e]
        show some (wrap64 (c.reg m.a * 1)) = _
        rw [Int.mul_one, wrap_id ha]
      · rw [e]
        show some (wrap64 ((c.reg m.a).tdiv 1)) = _
        rw [Int.tdiv_one, wrap_id ha]
    · simp only [Bool.and_eq_true, decide_eq_true_eq] at h
      rw [h.1]
      rcases h.2 with e | e | e | e | e | e
      · rw [e]
        show some (wrap64 (c.reg m.a + 0)) = _
        rw [Int.add_zero, wrap_id ha]
      · rw [e]
        show some (wrap64 (c.reg m.a - 0)) = _
        rw [Int.sub_zero, wrap_id ha]
      · rw [e]
        show some (bits .or .i64 (c.reg m.a) 0) = _
        rw [or_nought ha]
      · rw [e]
        show some (bits .xor .i64 (c.reg m.a) 0) = _
        rw [xor_nought ha]
      · rw [e]
        show some (wrap64 (c.reg m.a * 2 ^ (bits .and .i64 0 63).toNat)) = _
        rw [hz, Int.pow_zero, Int.mul_one, wrap_id ha]
      · rw [e]
        show some (c.reg m.a / 2 ^ (bits .and .i64 0 63).toNat) = _
        rw [hz, Int.pow_zero, Int.ediv_one]
  unfold exec
  rw [if_neg (by omega), if_pos (by omega), hx]
theorem means_idle {l : List Mac} (h : Lone l) {i : Nat} (hi : i < l.length) (hd : idleM (atL l i) = true) {k : Nat} {c : Cfg} {O : Oc} (hc : CfgIn c) (hE : Ends l 0 c k O) :
    ∃ k', k' ≤ k ∧ Ends (l.set i ⟨2, (atL l i).dst, (atL l i).a, 0, 0⟩) 0 c k' O :=
  sim_set h hi _ (fun _ c => CfgIn c) (fun k k' c ct c1 hk hj he hg => exec_in (h.nums _ (atL_in hk)) hj he) (fun c hj => by rw [idle_exec hd hj, exec_move rfl]) hc hE

/-- What a comparison tells, and the jump that compares. -/
theorem cmp_two {op a b : Int} (h1 : 15 ≤ op) (h2 : op ≤ 18) : twoI (op - 3) a b = some (if goesM (op + 25) a b = true then 1 else 0) := by
  have : op = 15 ∨ op = 16 ∨ op = 17 ∨ op = 18 := by omega
  rcases this with e | e | e | e
  · subst e
    by_cases h : a = b <;> simp [twoI, goesM, h]
  · subst e
    by_cases h : a = b <;> simp [twoI, goesM, h]
  · subst e
    by_cases h : a < b <;> simp [twoI, goesM, h]
  · subst e
    by_cases h : a ≤ b <;> simp [twoI, goesM, h]
theorem ifs_goes {m o : Mac} (h1 : 15 ≤ m.op) (h2 : m.op ≤ 18) (ho : o.op = 38 ∨ o.op = 39) (c : Cfg) (y : Int) :
    goesM (ifsM m o).op (c.reg (ifsM m o).a) (c.reg (ifsM m o).b) = goesM o.op (if goesM (m.op + 25) (c.reg m.a) (c.reg m.b) = true then 1 else 0) y := by
  have hm : m.op = 15 ∨ m.op = 16 ∨ m.op = 17 ∨ m.op = 18 := by omega
  obtain ⟨mo, md, ma, mb, mn⟩ := m
  obtain ⟨oo, od, oa, ob, on⟩ := o
  simp only at hm ho ⊢
  rcases ho with e | e <;> subst e
  · rcases hm with e | e | e | e <;> subst e <;> simp only [ifsM, if_pos]
    · by_cases h : c.reg ma = c.reg mb <;> simp [goesM, h]
    · by_cases h : c.reg ma = c.reg mb <;> simp [goesM, h]
    · by_cases h : c.reg ma < c.reg mb <;> simp [goesM, h]
    · by_cases h : c.reg ma ≤ c.reg mb <;> simp [goesM, h]
  · rcases hm with e | e | e | e <;> subst e
    · by_cases h : c.reg ma = c.reg mb <;> simp [ifsM, goesM, h]
    · by_cases h : c.reg ma = c.reg mb <;> simp [ifsM, goesM, h]
    · by_cases h : c.reg ma < c.reg mb <;> simp [ifsM, goesM, h] <;> omega
    · by_cases h : c.reg ma ≤ c.reg mb <;> simp [ifsM, goesM, h] <;> omega
theorem ifs_op {m o : Mac} (h1 : 15 ≤ m.op) (h2 : m.op ≤ 18) : (40 ≤ (ifsM m o).op ∧ (ifsM m o).op ≤ 43) ∧ (ifsM m o).n = o.n := by
  unfold ifsM
  split
  · exact ⟨⟨by simp only; omega, by simp only; omega⟩, rfl⟩
  split
  · exact ⟨⟨by simp, by simp⟩, rfl⟩
  split
  · exact ⟨⟨by simp, by simp⟩, rfl⟩
  split
  · exact ⟨⟨by simp, by simp⟩, rfl⟩
  · exact ⟨⟨by simp, by simp⟩, rfl⟩
theorem Agr.drop {P P' Q : Nat → Prop} {c c' : Cfg} (h : Agr P Q c c') {d : Int} (h0 : 0 ≤ d) (h1 : d ≤ 15) (x : Int) (hp : ∀ r, r < 16 → P' r → r ≠ d.toNat ∧ P r) : Agr P' Q (c.put d x) c' where
  l1 := by show (c.regs.set _ _).length = 16; rw [List.length_set]; exact h.l1
  l2 := h.l2
  f1 := h.f1
  f2 := h.f2
  regs := fun r hr hr' => by
    show (c.regs.set d.toNat x).getD r 0 = _
    rw [getD_put (by have := h.l1; omega), if_neg (hp r hr hr').1]
    exact h.regs r hr (hp r hr hr').2
  fr := h.fr
  mem := h.mem
  inp := h.inp
  out := h.out
theorem means_fused {l : List Mac} (h : Lone l) {i : Nat} (hb : besideP l i) (h1 : 15 ≤ (atL l i).op) (h2 : (atL l i).op ≤ 18) (ho : asksM (atL l (i + 1)) (atL l i).dst = true) (hn : ¬ behindP l (i + 1) (atL l i).dst.toNat)
    {k : Nat} {c : Cfg} {O : Oc} (hc : CfgOk c) (hE : Ends l 0 c k O) : ∃ k', k' ≤ k ∧ Ends (goneL (l.set (i + 1) (ifsM (atL l i) (atL l (i + 1)))) i) 0 c k' O := by
  have hi : i < l.length := by have := hb.1; omega
  have h0 := h.ok.some_
  have hm := (h.at_ hi).1
  have hm1 := (h.at_ hb.1).1
  obtain ⟨ho1, ho2⟩ := asks_op ho
  have hj1 := hm1.jump (by omega) (by omega)
  have hl2 := op_not_last h.ok hb.1 (by omega) (by omega)
  obtain ⟨hxo, hxn⟩ := ifs_op (m := atL l i) (o := atL l (i + 1)) h1 h2
  generalize hX : ifsM (atL l i) (atL l (i + 1)) = X at *
  have hlen : (l.set (i + 1) X).length = l.length := List.length_set
  have hst : stepsTo l i (i + 1) := ⟨hi, .inl ⟨by omega, by omega, rfl⟩⟩
  have hst1 : stepsTo l (i + 1) (i + 2) := ⟨hb.1, .inl ⟨by omega, by omega, rfl⟩⟩
  have hst2 : stepsTo l (i + 1) (atL l (i + 1)).n.toNat := ⟨hb.1, .inr ⟨jumps_op.2 (by omega), by omega⟩⟩
  have hnl : ∀ k, stepsTo l (i + 1) k → ∀ r, r < 16 → Live l r k → r ≠ (atL l i).dst.toNat ∧ Live l r i := fun k hs r hr hL => by
    have hne : r ≠ (atL l i).dst.toNat := fun e => hn ⟨k, hs, by rw [← e]; exact hL⟩
    refine ⟨hne, .via hi ?_ hst (.via hb.1 ?_ hs hL)⟩
    · have hsh := (shape_at _ hm.op1 hm.op47).1 ⟨by omega, by omega⟩
      unfold writesM
      rw [if_neg (by omega), hsh]
      have := hm.dst0
      simp
      omega
    · have hsh := (shape_at _ hm1.op1 hm1.op47).2.2.2.2.2.2.2.2.2.1 ho1
      unfold writesM
      rw [if_neg (by omega), hsh]
      rfl
  refine sim_ends (l := l) (R := fun pc c pc' c' => pc < l.length ∧ pc ≠ i + 1 ∧ pc' = phi i pc ∧ Agr (fun r => Live l r pc) allP c c') ?_ k k 0 c 0 c O (Nat.le_refl _) ⟨h0, by omega, by simp [phi], hc.agr _ _⟩ hE
  rintro pc c pc' c' k O ⟨hp, hp1, rfl, ha⟩ hE
  by_cases hpi : pc = i
  · subst hpi
    have hv := cmp_two (a := c.reg (atL l pc).a) (b := c.reg (atL l pc).b) h1 h2
    have hx : exec (atL l pc) c = (.fall, c.put (atL l pc).dst (if goesM ((atL l pc).op + 25) (c.reg (atL l pc).a) (c.reg (atL l pc).b) = true then 1 else 0)) := by
      unfold exec
      rw [if_pos (by omega), hv]
    have hra : c.reg (atL l pc).a = c'.reg (atL l pc).a := ha.regs _ (by have := hm.a1; omega) (.use hi (by
      have hsh := (shape_at _ hm.op1 hm.op47).1 ⟨by omega, by omega⟩
      unfold readsM
      rw [if_neg (by omega), if_neg (by omega), hsh]
      have := hm.a0
      simp
      exact .inl (by omega)))
    have hrb : c.reg (atL l pc).b = c'.reg (atL l pc).b := ha.regs _ (by have := hm.b1; omega) (.use hi (by
      have hsh := (shape_at _ hm.op1 hm.op47).1 ⟨by omega, by omega⟩
      unfold readsM
      rw [if_neg (by omega), if_neg (by omega), hsh]
      have := hm.b0
      simp
      exact .inr (by omega)))
    generalize hV : (if goesM ((atL l pc).op + 25) (c.reg (atL l pc).a) (c.reg (atL l pc).b) = true then (1 : Int) else 0) = V at *
    have hx1 : exec (atL l (pc + 1)) (c.put (atL l pc).dst V) = if goesM (atL l (pc + 1)).op V ((c.put (atL l pc).dst V).reg (atL l (pc + 1)).b) = true then (.jump (atL l (pc + 1)).n.toNat, c.put (atL l pc).dst V) else (.fall, c.put (atL l pc).dst V) := by
      rw [exec_of_jump (jumps_op.2 (by omega)), ho2, reg_put ha.l1 hm.dst0 hm.dst1 hm.dst0, if_pos rfl]
    have hxj : jumpsM X = true := jumps_op.2 (by omega)
    have hx2 : exec X c' = if goesM X.op (c'.reg X.a) (c'.reg X.b) = true then (.jump X.n.toNat, c') else (.fall, c') := exec_of_jump hxj c'
    have hgo := ifs_goes (m := atL l pc) (o := atL l (pc + 1)) h1 h2 ho1 c' ((c.put (atL l pc).dst V).reg (atL l (pc + 1)).b)
    rw [hX, ← hra, ← hrb, hV] at hgo
    have hat : atL (goneL (l.set (pc + 1) X) pc) (phi pc pc) = decM pc X := by
      unfold phi
      rw [if_pos (Nat.le_refl _), atL_gone (by rw [hlen]; exact hi) (by rw [hlen]; omega), if_neg (by omega), atL_set hb.1, if_pos rfl]
    have hX0 : jumpsM X = true → 0 ≤ X.n := fun _ => by rw [hxn]; exact hj1.1
    have hf : exec (atL l pc) c = (.fall, c.put (atL l pc).dst V) := hx
    cases hE with
    | stop he => rw [hf] at he; cases he
    | jump he _ => rw [hf] at he; cases he
    | @fall _ k _ _ _ he hE1 =>
      rw [hf] at he
      cases he
      rw [← hgo] at hx1
      cases hg : goesM X.op (c'.reg X.a) (c'.reg X.b)
      · rw [hg, if_neg (by simp)] at hx1 hx2
        have hd := exec_dec (i := pc) hX0 hx2
        rw [← hat] at hd
        cases hE1 with
        | stop he => rw [hx1] at he; cases he
        | jump he _ => rw [hx1] at he; cases he
        | @fall _ k _ _ _ he hE2 =>
          rw [hx1] at he
          cases he
          refine .inr ⟨pc + 2, _, k, phi pc pc + 1, c', by omega, ⟨hl2, by omega, ?_, ha.drop hm.dst0 hm.dst1 V (hnl _ hst1)⟩, hE2, fun k' h3 => ⟨k' + 1, by omega, .fall hd h3⟩⟩
          unfold phi
          rw [if_pos (Nat.le_refl _), if_neg (by omega)]
          omega
      · rw [hg, if_pos rfl] at hx1 hx2
        have hd := exec_dec (i := pc) hX0 hx2
        rw [← hat] at hd
        cases hE1 with
        | stop he => rw [hx1] at he; cases he
        | fall he _ => rw [hx1] at he; cases he
        | @jump _ k _ _ _ _ he hE2 =>
          rw [hx1] at he
          cases he
          rw [hxn] at hd
          refine .inr ⟨_, _, k, phi pc (atL l (pc + 1)).n.toNat, c', by omega, ⟨by omega, fun e => hb.2.2.2 ⟨pc + 1, hb.1, jumps_op.2 (by omega), by omega⟩, rfl, ha.drop hm.dst0 hm.dst1 V (hnl _ hst2)⟩, hE2, fun k' h3 => ⟨k' + 1, by omega, .jump hd h3⟩⟩
  · refine both_step (φ := phi i) hE fun ct c1 he => ?_
    have hm' := h.at_ hp
    obtain ⟨ct', c2, c1', e1, e2, e3, e4⟩ := exec_rel hm'.1 hm'.2 (P := fun r => Live l r pc) (Q := allP) (fun r hr h1 => .use hp h1) (fun _ => trivial) ha
    rw [he] at e1
    cases e1
    have hat : atL (goneL (l.set (i + 1) X) i) (phi i pc) = decM i (atL l pc) := by
      unfold phi
      by_cases h1 : pc ≤ i
      · rw [if_pos h1, atL_gone (by rw [hlen]; exact hi) (by rw [hlen]; omega), if_pos (by omega), atL_set hb.1, if_neg (by omega)]
      · rw [if_neg h1, atL_gone (by rw [hlen]; exact hi) (by rw [hlen]; omega), if_neg (by omega), show pc - 1 + 1 = pc from by omega, atL_set hb.1, if_neg hp1]
    have hlive : ∀ k, stepsTo l pc k → ∀ r, r < 16 → Live l r k → Live l r pc ∨ writesM (atL l pc) r = true := fun k hs r _ hL => by
      cases hw : writesM (atL l pc) r
      · exact .inl (.via hs.1 hw hs hL)
      · exact .inr rfl
    refine ⟨c1', ?_, e4, ?_, ?_⟩
    · rw [hat]
      exact exec_dec (fun hj => (hm'.1.jump (jumps_op.1 hj).1 (jumps_op.1 hj).2).1) e2
    · rintro rfl
      obtain ⟨g1, g2⟩ := h.goes hp he (.inl ⟨rfl, rfl⟩)
      refine ⟨g1, by omega, ?_, (e3 rfl).mono fun r hr hP => hlive _ g2 r hr hP⟩
      unfold phi
      by_cases h1 : pc ≤ i
      · rw [if_pos h1, if_pos (by omega)]
      · rw [if_neg h1, if_neg (by omega)]; omega
    · rintro n rfl
      obtain ⟨g1, g2⟩ := h.goes hp he (.inr rfl)
      refine ⟨g1, fun e => ?_, rfl, (e3 rfl).mono fun r hr hP => hlive _ g2 r hr hP⟩
      subst e
      exact hpi (beside_from h hb hp he (.inr rfl)).1

/-! ### All of them -/
theorem gone_lone {l : List Mac} {i : Nat} (h : ∀ m ∈ l, m.op ≠ 44 ∧ N64 m.n) (hf : ∀ m ∈ l, jumpsM m = true → 0 ≤ m.n) : ∀ m ∈ goneL l i, m.op ≠ 44 ∧ N64 m.n := fun m hm => by
  obtain ⟨x, hx, rfl⟩ := mem_gone hm
  refine ⟨by rw [decM_op]; exact (h x hx).1, ?_⟩
  have h1 := (h x hx).2
  unfold decM
  split
  · rename_i hc
    have := hf x hx hc.1
    unfold N64 at h1 ⊢
    show -9223372036854775808 ≤ x.n - 1 ∧ x.n - 1 ≤ 9223372036854775807
    omega
  · exact h1
theorem set_lone {l : List Mac} {i : Nat} {m : Mac} (h : ∀ m ∈ l, m.op ≠ 44 ∧ N64 m.n) (hm : m.op ≠ 44 ∧ N64 m.n) : ∀ x ∈ l.set i m, x.op ≠ 44 ∧ N64 x.n := fun x hx => by
  rcases List.mem_or_eq_of_mem_set hx with e | e
  · exact h x e
  · rw [e]; exact hm
theorem Lone.jump0 {l : List Mac} (h : Lone l) : ∀ m ∈ l, jumpsM m = true → 0 ≤ m.n := fun m hm hj => ((macF_ok (h.ok.fine m hm)).jump (jumps_op.1 hj).1 (jumps_op.1 hj).2).1
/-- A rule that fits leaves what means the same. -/
theorem rule_means {l l' : List Mac} (h : Lone l) {i j : Nat} (hi : i < l.length) (hr : ∀ k, k < i → Reach l k) (hx : ruleR l i j = some l') :
    Lone l' ∧ ∀ k c O, CfgOk c → CfgIn c → Ends l 0 c k O → ∃ k', k' ≤ k ∧ Ends l' 0 c k' O := by
  have hok := (rule_ok h.ok hi hr hx).1
  have hall : ∀ m ∈ l, m.op ≠ 44 ∧ N64 m.n := fun m hm => ⟨h.none m hm, h.nums m hm⟩
  have fin : ∀ {x : List Mac}, MacsOk x → (∀ m ∈ x, m.op ≠ 44 ∧ N64 m.n) → Lone x := fun h1 h2 => ⟨h1, fun m hm => (h2 m hm).1, fun m hm => (h2 m hm).2⟩
  have g_ : ∀ k, MacsOk (goneL l k) → Lone (goneL l k) := fun k hk => fin hk (gone_lone hall h.jump0)
  have n0 : N64 0 := n64_0
  match j with
  | 0 =>
    simp only [ruleR, lostR] at hx
    split at hx
    · cases hx
    · rename_i hn
      cases hx
      exact ⟨g_ _ hok, fun k c O hc _ hE => means_lost h hi (fun e => hn (reachB_iff.2 e)) hc hE⟩
  | 1 =>
    simp only [ruleR, itselfR] at hx
    split at hx
    · rename_i hc
      cases hx
      exact ⟨g_ _ hok, fun k c O hc' _ hE => means_itself h hi hc.1 hc.2 hc' hE⟩
    · cases hx
  | 2 =>
    simp only [ruleR, shortR] at hx
    split at hx
    · rename_i hc
      cases hx
      exact ⟨g_ _ hok, fun k c O hc' _ hE => means_short h hi hc.1 hc.2 hc' hE⟩
    · cases hx
  | 3 =>
    simp only [ruleR, farR, farTo] at hx
    split at hx
    · rename_i hj
      split at hx
      · rename_i t ht
        split at hx
        · cases hx
        · simp at hx
          subst hx
          have hb := (h.at_ hi).1.jump (jumps_op.1 hj).1 (jumps_op.1 hj).2
          have hto := ledL_ok h.ok _ _ _ hb.1 hb.2 ht
          have hfew := h.ok.few
          exact ⟨fin hok (set_lone hall ⟨(h.at_ hi).2, by unfold N64; show -9223372036854775808 ≤ t ∧ t ≤ 9223372036854775807; omega⟩), fun k c O hc' _ hE => sim_far h hi hj ht hE⟩
      · simp at hx
    · simp at hx
  | 4 =>
    simp only [ruleR, vainR] at hx
    split at hx
    · rename_i hc
      cases hx
      exact ⟨g_ _ hok, fun k c O hc' _ hE => means_vain h hi hc.1 (fun e => by have := behB_iff.2 e; rw [hc.2] at this; cases this) hc' hE⟩
    · cases hx
  | 5 =>
    simp only [ruleR, unreadR] at hx
    split at hx
    · rename_i hc
      cases hx
      exact ⟨g_ _ hok, fun k c O hc' _ hE => means_unread h hi hc.1 hc.2 hc' hE⟩
    · cases hx
  | 6 =>
    simp only [ruleR, againR] at hx
    split at hx
    · rename_i hc
      cases hx
      exact ⟨fin hok (set_lone hall ⟨by simp, n0⟩), fun k c O hc' _ hE => means_again h (besB_iff.1 hc.1) hc.2.1 hc.2.2.1 hc.2.2.2 hc' hE⟩
    · cases hx
  | 7 =>
    simp only [ruleR, backR] at hx
    split at hx
    · rename_i hc
      cases hx
      exact ⟨g_ _ hok, fun k c O hc' _ hE => means_back h (besB_iff.1 hc.1) hc.2.1 hc.2.2 hc' hE⟩
    · cases hx
  | 8 =>
    simp only [ruleR, sureR] at hx
    split at hx
    · rename_i hc
      have hb := besB_iff.1 hc.1
      split at hx
      · rename_i hs
        cases hx
        exact ⟨g_ _ hok, fun k c O hc' _ hE => means_sureNo h hb hc.2.1 hc.2.2 hs hc' hE⟩
      · rename_i hs
        cases hx
        exact ⟨fin hok (set_lone hall ⟨by simp, (hall _ (atL_in hb.1)).2⟩), fun k c O hc' _ hE => means_sureYes h hb hc.2.1 hc.2.2 hs hc' hE⟩
    · cases hx
  | 9 =>
    simp only [ruleR, fusedR] at hx
    split at hx
    · rename_i hc
      cases hx
      have hb := besB_iff.1 hc.1
      obtain ⟨h15, h18⟩ := hc.2.1
      obtain ⟨h3, h4⟩ := ifs_op (m := atL l i) (o := atL l (i + 1)) h15 h18
      have ho1 := (asks_op hc.2.2.1).1
      have hj1 := ((h.at_ hb.1).1).jump (by omega) (by omega)
      refine ⟨fin hok (gone_lone (set_lone hall ⟨by omega, by rw [h4]; exact (hall _ (atL_in hb.1)).2⟩) fun m hm hj => ?_), fun k c O hc' _ hE => means_fused h hb h15 h18 hc.2.2.1 (fun e => by have := behB_iff.2 e; rw [hc.2.2.2] at this; cases this) hc' hE⟩
      rcases List.mem_or_eq_of_mem_set hm with e | e
      · exact h.jump0 m e hj
      · rw [e, h4]; exact hj1.1
    · cases hx
  | 10 =>
    simp only [ruleR, idleR] at hx
    split at hx
    · rename_i hc
      cases hx
      exact ⟨fin hok (set_lone hall ⟨by simp, n0⟩), fun k c O _ hin hE => means_idle h hi hc hin hE⟩
    · cases hx
  | j + 11 => simp [ruleR] at hx
theorem once_means {l l' : List Mac} (h : Lone l) (hx : onceP l = some l') : Lone l' ∧ ∀ k c O, CfgOk c → CfgIn c → Ends l 0 c k O → ∃ k', k' ≤ k ∧ Ends l' 0 c k' O := by
  obtain ⟨i, j, hi, hr, _, hj⟩ := onceP_at hx
  exact rule_means h hi hr hj
theorem peep_means (n : Nat) : ∀ {l : List Mac}, Lone l → msr l ≤ n → Lone (peepL l) ∧ ∀ k c O, CfgOk c → CfgIn c → Ends l 0 c k O → ∃ k', k' ≤ k ∧ Ends (peepL l) 0 c k' O := by
  induction n with
  | zero =>
    intro l h h1
    cases hx : onceP l with
    | none => rw [peepL_none hx]; exact ⟨h, fun k c O _ _ hE => ⟨k, Nat.le_refl _, hE⟩⟩
    | some x => have := (onceP_ok h.ok hx).2.1; omega
  | succ n ih =>
    intro l h h1
    cases hx : onceP l with
    | none => rw [peepL_none hx]; exact ⟨h, fun k c O _ _ hE => ⟨k, Nat.le_refl _, hE⟩⟩
    | some x =>
      have h3 := onceP_ok h.ok hx
      obtain ⟨h4, h5⟩ := once_means h hx
      obtain ⟨h6, h7⟩ := ih h4 (by omega)
      rw [peepL_some h.ok hx]
      refine ⟨h6, fun k c O hc hin hE => ?_⟩
      obtain ⟨k1, h8, h9⟩ := h5 k c O hc hin hE
      obtain ⟨k2, h10, h11⟩ := h7 k1 c O hc hin h9
      exact ⟨k2, by omega, h11⟩
end Go.Proofs.YtkcmijnaheapdaaDoor
