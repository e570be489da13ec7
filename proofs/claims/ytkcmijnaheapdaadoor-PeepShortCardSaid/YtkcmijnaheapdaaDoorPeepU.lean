/- What a rule of peep leaves ends as what was there, in as few steps, plainly. -/
import Derived.Test.YtkcmijnaheapdaaDoorPeepT
import Derived.Test.YtkcmijnaheapdaaDoorPeepQ
namespace Go.Proofs.YtkcmijnaheapdaaDoor
open Go.RowKit
set_option linter.unusedSimpArgs false
set_option linter.unusedVariables false

abbrev Oc := Int × Int × List Int
def Ctl.map (φ : Nat → Nat) : Ctl → Ctl
  | .fall => .fall
  | .jump n => .jump (φ n)
  | .stop a b => .stop a b
def phi (i n : Nat) : Nat := if n ≤ i then n else n - 1
theorem jumps_op {m : Mac} : jumpsM m = true ↔ 37 ≤ m.op ∧ m.op ≤ 43 := by unfold jumpsM; simp
theorem exec_of_jump {m : Mac} (hj : jumpsM m = true) (c : Cfg) : exec m c = if goesM m.op (c.reg m.a) (c.reg m.b) = true then (.jump m.n.toNat, c) else (.fall, c) := by
  have h := jumps_op.1 hj
  unfold exec
  rw [if_neg (by omega), if_neg (by omega), if_pos h]
theorem exec_dec {i : Nat} {m : Mac} {c c1 : Cfg} {ct : Ctl} (hn : jumpsM m = true → 0 ≤ m.n) (he : exec m c = (ct, c1)) : exec (decM i m) c = (ct.map (phi i), c1) := by
  cases hj : jumpsM m
  · have e : decM i m = m := by unfold decM; rw [hj, if_neg (by simp)]
    rw [e, he]
    cases ct with
    | jump n => have := (exec_jump he).1; rw [hj] at this; cases this
    | fall => rfl
    | stop a b => rfl
  · have hj' : jumpsM (decM i m) = true := by rw [jumps_op, decM_op]; exact jumps_op.1 hj
    have h0 := hn hj
    have ha : (decM i m).a = m.a ∧ (decM i m).b = m.b := by unfold decM; split <;> exact ⟨rfl, rfl⟩
    rw [exec_of_jump hj] at he
    rw [exec_of_jump hj', decM_op, ha.1, ha.2]
    cases hg : goesM m.op (c.reg m.a) (c.reg m.b)
    · rw [hg, if_neg (by simp)] at he
      rw [if_neg (by simp)]
      cases he
      rfl
    · rw [hg, if_pos rfl] at he
      rw [if_pos rfl]
      cases he
      have : (decM i m).n.toNat = phi i m.n.toNat := by
        unfold decM phi
        by_cases h1 : (i : Int) < m.n
        · rw [if_pos ⟨hj, h1⟩, if_neg (by omega)]
          show (m.n - 1).toNat = _
          omega
        · rw [if_neg (fun e => h1 e.2), if_pos (by omega)]
      rw [this]
      rfl

/-- A step of a simulation. -/
def Goes1 (l l' : List Mac) (R : Nat → Cfg → Nat → Cfg → Prop) (k : Nat) (pc' : Nat) (c' : Cfg) (O : Oc) : Prop :=
  (∃ k', k' ≤ k ∧ Ends l' pc' c' k' O) ∨
  ∃ pc1 c1 k1 pc1' c1', k1 < k ∧ R pc1 c1 pc1' c1' ∧ Ends l pc1 c1 k1 O ∧ ∀ k', Ends l' pc1' c1' k' O → ∃ k'', k'' + k1 ≤ k' + k ∧ Ends l' pc' c' k'' O
theorem sim_ends {l l' : List Mac} {R : Nat → Cfg → Nat → Cfg → Prop} (h : ∀ pc c pc' c' k O, R pc c pc' c' → Ends l pc c k O → Goes1 l l' R k pc' c' O) :
    ∀ (n k : Nat) (pc : Nat) (c : Cfg) (pc' : Nat) (c' : Cfg) (O : Oc), k ≤ n → R pc c pc' c' → Ends l pc c k O → ∃ k', k' ≤ k ∧ Ends l' pc' c' k' O := by
  intro n
  induction n with
  | zero =>
    intro k pc c pc' c' O hk hR hE
    obtain rfl : k = 0 := by omega
    cases hE
  | succ n ih =>
    intro k pc c pc' c' O hk hR hE
    rcases h _ _ _ _ _ _ hR hE with h1 | ⟨pc1, c1, k1, pc1', c1', h1, h2, h3, h4⟩
    · exact h1
    · obtain ⟨k', h5, h6⟩ := ih k1 pc1 c1 pc1' c1' O (by omega) h2 h3
      obtain ⟨k'', h7, h8⟩ := h4 k' h6
      exact ⟨k'', by omega, h8⟩
/-- A step that both make. -/
theorem both_step {l l' : List Mac} {R : Nat → Cfg → Nat → Cfg → Prop} {φ : Nat → Nat} {pc pc' k : Nat} {c c' : Cfg} {O : Oc} (hE : Ends l pc c k O)
    (hx : ∀ ct c1, exec (atL l pc) c = (ct, c1) → ∃ c1', exec (atL l' pc') c' = (ct.map φ, c1') ∧ c1.out = c1'.out ∧ (ct = .fall → R (pc + 1) c1 (pc' + 1) c1') ∧ (∀ n, ct = .jump n → R n c1 (φ n) c1')) : Goes1 l l' R k pc' c' O := by
  cases hE with
  | stop he =>
    obtain ⟨c1', h1, h2, _, _⟩ := hx _ _ he
    exact .inl ⟨1, Nat.le_refl _, by rw [h2]; exact .stop h1⟩
  | @fall pc k c c1 O he h =>
    obtain ⟨c1', h1, _, h2, _⟩ := hx _ _ he
    exact .inr ⟨_, _, k, _, _, by omega, h2 rfl, h, fun k' h3 => ⟨k' + 1, by omega, .fall h1 h3⟩⟩
  | @jump pc k n c c1 O he h =>
    obtain ⟨c1', h1, _, _, h2⟩ := hx _ _ he
    exact .inr ⟨_, _, k, _, _, by omega, h2 n rfl, h, fun k' h3 => ⟨k' + 1, by omega, .jump h1 h3⟩⟩
/-- A step that only the elder one makes. -/
theorem skip_step {l l' : List Mac} {R : Nat → Cfg → Nat → Cfg → Prop} {pc pc' k : Nat} {c c' : Cfg} {O : Oc} (hE : Ends l pc c k O)
    (hx : ∀ ct c1, exec (atL l pc) c = (ct, c1) → (ct = .fall ∧ R (pc + 1) c1 pc' c') ∨ ∃ n, ct = .jump n ∧ R n c1 pc' c') : Goes1 l l' R k pc' c' O := by
  cases hE with
  | stop he => rcases hx _ _ he with ⟨e, _⟩ | ⟨n, e, _⟩ <;> cases e
  | @fall pc k c c1 O he h =>
    rcases hx _ _ he with ⟨e, hR⟩ | ⟨n, e, _⟩
    · exact .inr ⟨_, _, k, _, _, by omega, hR, h, fun k' h3 => ⟨k', by omega, h3⟩⟩
    · cases e
  | @jump pc k n c c1 O he h =>
    rcases hx _ _ he with ⟨e, _⟩ | ⟨n', e, hR⟩
    · cases e
    · cases e
      exact .inr ⟨_, _, k, _, _, by omega, hR, h, fun k' h3 => ⟨k', by omega, h3⟩⟩

/-- Code that may be and calls nothing. -/
structure Lone (l : List Mac) : Prop where
  ok : MacsOk l
  none : ∀ m ∈ l, m.op ≠ 44
  nums : ∀ m ∈ l, -9223372036854775808 ≤ m.n ∧ m.n ≤ 9223372036854775807
theorem Lone.at_ {l : List Mac} (h : Lone l) {i : Nat} (hi : i < l.length) : MacOk (atL l i) l.length ∧ (atL l i).op ≠ 44 := ⟨h.ok.at_ hi, h.none _ (atL_in hi)⟩
theorem Lone.goes {l : List Mac} (h : Lone l) {pc k : Nat} {c c1 : Cfg} {ct : Ctl} (hp : pc < l.length) (he : exec (atL l pc) c = (ct, c1)) (hk : (ct = .fall ∧ k = pc + 1) ∨ ct = .jump k) : k < l.length ∧ stepsTo l pc k := by
  rcases hk with ⟨rfl, rfl⟩ | rfl
  · have := exec_fall he
    exact ⟨op_not_last h.ok hp this.1 this.2, hp, .inl ⟨this.2, this.1, rfl⟩⟩
  · obtain ⟨hj, hn, _⟩ := exec_jump he
    have h1 := jumps_op.1 hj
    have := (h.at_ hp).1.jump h1.1 h1.2
    exact ⟨by omega, hp, .inr ⟨hj, by omega⟩⟩

/-- An instruction is taken out that does nothing that is wanted. -/
theorem sim_gone {l : List Mac} (h : Lone l) {i : Nat} (hi : i < l.length) (P : Nat → Nat → Prop) (Q : Nat → Prop) (J : Nat → Cfg → Prop)
    (hread : ∀ k, k < l.length → k ≠ i → ∀ r, r < 16 → readsM (atL l k) r = true → P k r)
    (hget : ∀ k, k < l.length → k ≠ i → (atL l k).op = 35 → Q (atL l k).n.toNat)
    (hnext : ∀ k k', k ≠ i → stepsTo l k k' → ∀ r, r < 16 → P k' r → P k r ∨ writesM (atL l k) r = true)
    (hJ : ∀ k k' c ct c1, k < l.length → c.regs.length = 16 → J k c → exec (atL l k) c = (ct, c1) → ((ct = .fall ∧ k' = k + 1) ∨ ct = .jump k') → J k' c1)
    (hskip : ∀ c c' ct c1, J i c → Agr (P i) Q c c' → exec (atL l i) c = (ct, c1) → i + 1 < l.length ∧ (ct = .fall ∨ ct = .jump (i + 1)) ∧ Agr (P (i + 1)) Q c1 c')
    {k : Nat} {c c' : Cfg} {O : Oc} (hJ0 : J 0 c) (ha : Agr (P 0) Q c c') (hE : Ends l 0 c k O) : ∃ k', k' ≤ k ∧ Ends (goneL l i) 0 c' k' O := by
  have h0 := h.ok.some_
  refine sim_ends (l := l) (R := fun pc c pc' c' => pc < l.length ∧ pc' = phi i pc ∧ Agr (P pc) Q c c' ∧ J pc c) ?_ k k 0 c 0 c' O (Nat.le_refl _) ⟨h0, by simp [phi], ha, hJ0⟩ hE
  rintro pc c pc' c' k O ⟨hp, rfl, ha, hj⟩ hE
  by_cases hpi : pc = i
  · subst hpi
    refine skip_step hE fun ct c1 he => ?_
    obtain ⟨h1, h2, h3⟩ := hskip c c' ct c1 hj ha he
    have hphi : phi pc pc = phi pc (pc + 1) := by unfold phi; rw [if_pos (Nat.le_refl _), if_neg (by omega)]; omega
    rcases h2 with rfl | rfl
    · exact .inl ⟨rfl, h1, hphi, h3, hJ _ _ _ _ _ hp ha.l1 hj he (.inl ⟨rfl, rfl⟩)⟩
    · exact .inr ⟨_, rfl, h1, hphi, h3, hJ _ _ _ _ _ hp ha.l1 hj he (.inr rfl)⟩
  · refine both_step (φ := phi i) hE fun ct c1 he => ?_
    have hm := h.at_ hp
    obtain ⟨ct', c2, c1', e1, e2, e3, e4⟩ := exec_rel hm.1 hm.2 (P := P pc) (Q := Q) (fun r hr h1 => hread pc hp hpi r hr h1) (fun h35 => hget pc hp hpi h35) ha
    rw [he] at e1
    cases e1
    have hat : atL (goneL l i) (phi i pc) = decM i (atL l pc) := by
      unfold phi
      by_cases h1 : pc ≤ i
      · rw [if_pos h1, atL_gone hi (by omega), if_pos (by omega)]
      · rw [if_neg h1, atL_gone hi (by omega), if_neg (by omega), show pc - 1 + 1 = pc from by omega]
    refine ⟨c1', ?_, e4, ?_, ?_⟩
    · rw [hat]
      exact exec_dec (fun hj => (hm.1.jump (jumps_op.1 hj).1 (jumps_op.1 hj).2).1) e2
    · rintro rfl
      obtain ⟨g1, g2⟩ := h.goes hp he (.inl ⟨rfl, rfl⟩)
      refine ⟨g1, ?_, (e3 rfl).mono fun r hr hP => hnext pc _ hpi g2 r hr hP, hJ _ _ _ _ _ hp ha.l1 hj he (.inl ⟨rfl, rfl⟩)⟩
      unfold phi
      by_cases h1 : pc ≤ i
      · rw [if_pos h1, if_pos (by omega)]
      · rw [if_neg h1, if_neg (by omega)]; omega
    · rintro n rfl
      obtain ⟨g1, g2⟩ := h.goes hp he (.inr rfl)
      exact ⟨g1, rfl, (e3 rfl).mono fun r hr hP => hnext pc _ hpi g2 r hr hP, hJ _ _ _ _ _ hp ha.l1 hj he (.inr rfl)⟩
/-- An instruction is another one that does the same there. -/
theorem sim_set {l : List Mac} (h : Lone l) {i : Nat} (hi : i < l.length) (m : Mac) (J : Nat → Cfg → Prop)
    (hJ : ∀ k k' c ct c1, k < l.length → J k c → exec (atL l k) c = (ct, c1) → ((ct = .fall ∧ k' = k + 1) ∨ ct = .jump k') → J k' c1)
    (hsame : ∀ c, J i c → exec m c = exec (atL l i) c)
    {k : Nat} {c : Cfg} {O : Oc} (hJ0 : J 0 c) (hE : Ends l 0 c k O) : ∃ k', k' ≤ k ∧ Ends (l.set i m) 0 c k' O := by
  have h0 := h.ok.some_
  refine sim_ends (l := l) (R := fun pc c pc' c' => pc < l.length ∧ pc' = pc ∧ c' = c ∧ J pc c) ?_ k k 0 c 0 c O (Nat.le_refl _) ⟨h0, rfl, rfl, hJ0⟩ hE
  rintro pc c pc' c' k O ⟨hp, rfl, rfl, hj⟩ hE
  refine both_step (φ := id) hE fun ct c1 he => ?_
  have hid : ct.map id = ct := by cases ct <;> rfl
  refine ⟨c1, ?_, rfl, ?_, ?_⟩
  · rw [hid, atL_set hi]
    by_cases e : pc' = i
    · rw [if_pos e, hsame _ (e ▸ hj), ← e, he]
    · rw [if_neg e, he]
  · rintro rfl
    obtain ⟨g1, g2⟩ := h.goes hp he (.inl ⟨rfl, rfl⟩)
    exact ⟨g1, rfl, rfl, hJ _ _ _ _ _ hp hj he (.inl ⟨rfl, rfl⟩)⟩
  · rintro n rfl
    obtain ⟨g1, g2⟩ := h.goes hp he (.inr rfl)
    exact ⟨g1, rfl, rfl, hJ _ _ _ _ _ hp hj he (.inr rfl)⟩
/-- Where MacJumps lead, a run is later. -/
theorem led_ends {l : List Mac} (h : Lone l) : ∀ (f : Nat) (tg t : Int) (c : Cfg) (k : Nat) (O : Oc), 0 ≤ tg → tg < (l.length : Int) → ledL l f tg = some t → Ends l tg.toNat c k O → ∃ k1, k1 ≤ k ∧ Ends l t.toNat c k1 O
  | 0, _, _, _, _, _, _, _, e, _ => by cases e
  | f + 1, tg, t, c, k, O, h0, h1, e, hE => by
    rw [ledL] at e
    by_cases hj : (atL l tg.toNat).op ≠ 37
    · rw [if_pos hj] at e
      cases e
      exact ⟨k, Nat.le_refl _, hE⟩
    · rw [if_neg hj] at e
      have h37 : (atL l tg.toNat).op = 37 := Decidable.of_not_not hj
      have hb := (h.at_ (i := tg.toNat) (by omega)).1.jump (by omega) (by omega)
      have hx : exec (atL l tg.toNat) c = (.jump (atL l tg.toNat).n.toNat, c) := by
        rw [exec_of_jump (jumps_op.2 (by omega)), h37]
        rfl
      cases hE with
      | stop he => rw [hx] at he; cases he
      | fall he _ => rw [hx] at he; cases he
      | jump he h2 =>
        rw [hx] at he
        cases he
        obtain ⟨k1, h3, h4⟩ := led_ends h f _ t c _ O hb.1 hb.2 e h2
        exact ⟨k1, by omega, h4⟩
theorem sim_far {l : List Mac} (h : Lone l) {i : Nat} (hi : i < l.length) {t : Int} (hj : jumpsM (atL l i) = true) (ht : ledL l l.length (atL l i).n = some t)
    {k : Nat} {c : Cfg} {O : Oc} (hE : Ends l 0 c k O) : ∃ k', k' ≤ k ∧ Ends (l.set i (withN (atL l i) t)) 0 c k' O := by
  have h0 := h.ok.some_
  have h1 := jumps_op.1 hj
  have hb := (h.at_ hi).1.jump h1.1 h1.2
  have hto := ledL_ok h.ok _ _ _ hb.1 hb.2 ht
  refine sim_ends (l := l) (R := fun pc c pc' c' => pc < l.length ∧ pc' = pc ∧ c' = c) ?_ k k 0 c 0 c O (Nat.le_refl _) ⟨h0, rfl, rfl⟩ hE
  rintro pc c pc' c' k O ⟨hp, rfl, rfl⟩ hE
  by_cases e : pc' = i
  · subst e
    have hx := exec_of_jump hj c'
    have hj' : jumpsM (withN (atL l pc') t) = true := hj
    have hx' : exec (atL (l.set pc' (withN (atL l pc') t)) pc') c' = if goesM (atL l pc').op (c'.reg (atL l pc').a) (c'.reg (atL l pc').b) = true then (.jump t.toNat, c') else (.fall, c') := by
      rw [atL_set hi, if_pos rfl]
      exact exec_of_jump hj' c'
    cases hg : goesM (atL l pc').op (c'.reg (atL l pc').a) (c'.reg (atL l pc').b)
    · rw [hg, if_neg (by simp)] at hx hx'
      cases hE with
      | stop he => rw [hx] at he; cases he
      | jump he _ => rw [hx] at he; cases he
      | @fall _ k _ _ _ he h2 =>
        rw [hx] at he
        cases he
        obtain ⟨g1, _⟩ := h.goes hp hx (.inl ⟨rfl, rfl⟩)
        exact .inr ⟨_, _, k, _, _, by omega, ⟨g1, rfl, rfl⟩, h2, fun k' h3 => ⟨k' + 1, by omega, .fall hx' h3⟩⟩
    · rw [hg, if_pos rfl] at hx hx'
      cases hE with
      | stop he => rw [hx] at he; cases he
      | fall he _ => rw [hx] at he; cases he
      | @jump _ k _ _ _ _ he h2 =>
        rw [hx] at he
        cases he
        obtain ⟨k1, h3, h4⟩ := led_ends h _ _ _ _ _ _ hb.1 hb.2 ht h2
        exact .inr ⟨t.toNat, c', k1, _, _, by omega, ⟨by omega, rfl, rfl⟩, h4, fun k' h5 => ⟨k' + 1, by omega, .jump hx' h5⟩⟩
  · refine both_step (φ := id) hE fun ct c1 he => ?_
    have hid : ct.map id = ct := by cases ct <;> rfl
    refine ⟨c1, by rw [hid, atL_set hi, if_neg e, he], rfl, ?_, ?_⟩
    · rintro rfl
      exact ⟨(h.goes hp he (.inl ⟨rfl, rfl⟩)).1, rfl, rfl⟩
    · rintro n rfl
      exact ⟨(h.goes hp he (.inr rfl)).1, rfl, rfl⟩
end Go.Proofs.YtkcmijnaheapdaaDoor
