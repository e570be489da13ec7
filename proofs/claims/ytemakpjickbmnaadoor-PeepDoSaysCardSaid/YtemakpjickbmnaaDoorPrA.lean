/- The document's rounds, plainly: one register's liveness; what is reached. The document's answer: what an instruction reads and writes; where it goes on; what is quiet. The document's rounds: one register's liveness; what is reached. (printed by genpr2.py) -/
import Derived.Test.YtemakpjickbmnaaDoorPkB
import Derived.Test.YtemakpjickbmnaaDoorBase
import Derived.Test.YtemakpjickbmnaaDoorRows
import Derived.IntWalk
import Derived.Outline
import Derived.Deep.LoopGhost
import Derived.Test.YtemakpjickbmnaaDoorRefA
import Derived.Test.YtemakpjickbmnaaDoorPkA
/- The document's rounds, plainly: one register's liveness; what is reached. -/
namespace Go.Proofs.YtemakpjickbmnaaDoor
open Go.RowKit
set_option linter.unusedSimpArgs false
set_option linter.unusedVariables false

def goesB (l : List Mac) (i k : Nat) : Bool := decide ((k : Int) ∈ nextL l i)
theorem nextL_any {l : List Mac} (hok : MacsOk l) {i : Nat} (hi : i < l.length) {S : List Bool} (hS : S.length = l.length) :
    (nextL l i).any (fun k => atB S k.toNat) = ((decide (i + 1 < l.length) && atB S (i + 1) && goesB l i (i + 1)) || (jumpsM (atL l i) && atB S (atL l i).n.toNat)) := by
  have hlt := nextL_lt hok hi
  rw [Bool.eq_iff_iff, List.any_eq_true]
  simp only [Bool.or_eq_true, Bool.and_eq_true, decide_eq_true_eq, goesB]
  constructor
  · rintro ⟨k, hk, h⟩
    have hb := hlt k hk
    have hst := (nextL_iff (k := k.toNat) hi).1 (by rwa [Int.toNat_of_nonneg hb.1])
    rcases hst.2 with ⟨_, _, h3⟩ | ⟨h1, h2⟩
    · left
      rw [h3] at h
      exact ⟨⟨by omega, h⟩, by rw [← h3, Int.toNat_of_nonneg hb.1]; exact hk⟩
    · right
      exact ⟨h1, by rw [h2, Int.toNat_natCast]; exact h⟩
  · rintro (⟨⟨h1, h2⟩, h3⟩ | ⟨h1, h2⟩)
    · exact ⟨_, h3, by rw [Int.toNat_natCast]; exact h2⟩
    · have h37 : 37 ≤ (atL l i).op ∧ (atL l i).op ≤ 43 := by unfold jumpsM at h1; simpa using h1
      have hb := (hok.at_ hi).jump h37.1 h37.2
      exact ⟨_, (nextL_iff (k := (atL l i).n.toNat) hi).2 ⟨hi, .inr ⟨h1, by omega⟩⟩, by rw [Int.toNat_natCast]; exact h2⟩
def stepC (l : List Mac) (r : Nat) (S : List Bool) (i : Nat) : Bool := readsM (atL l i) r || (!writesM (atL l i) r && (nextL l i).any (fun k => atB S k.toNat))
structure GoodC (l : List Mac) (r : Nat) (S : List Bool) : Prop where
  len : S.length = l.length
  sound : ∀ i, atB S i = true → Live l r i
noncomputable def liveC (l : List Mac) (r : Nat) : List Bool := (List.range l.length).map fun i => liveB l i r
theorem GoodC.done {l : List Mac} (hok : MacsOk l) {r : Nat} {S : List Bool} (h : GoodC l r S) (hc : ∀ i, i < l.length → stepC l r S i = true → atB S i = true) : S = liveC l r := by
  have back : ∀ i, Live l r i → atB S i = true := fun i hL => by
    induction hL with
    | use hi hx => exact hc _ hi (by unfold stepC; rw [hx]; rfl)
    | @via j k hi hw hs _ ih =>
      refine hc _ hi ?_
      unfold stepC
      rw [hw]
      have : (nextL l j).any (fun k => atB S k.toNat) = true := List.any_eq_true.2 ⟨(k : Int), (nextL_iff hi).2 hs, by rw [Int.toNat_natCast]; exact ih⟩
      rw [this]
      simp
  apply ext_atB
  · rw [h.len]; simp [liveC]
  · intro i h1
    unfold liveC
    rw [atB_map (by rw [← h.len]; exact h1)]
    cases hb : atB S i
    · cases hcc : liveB l i r
      · rfl
      · rw [back i (liveB_iff.1 hcc)] at hb; cases hb
    · exact (liveB_iff.2 (h.sound i hb)).symm
theorem GoodC.begin {l : List Mac} {r : Nat} : GoodC l r (List.replicate l.length false) := ⟨List.length_replicate, fun i hi => by rw [atB_none] at hi; cases hi⟩
theorem GoodC.new {l : List Mac} (hok : MacsOk l) {r : Nat} {S : List Bool} (h : GoodC l r S) {i : Nat} (hi : i < l.length) (hs : stepC l r S i = true) : GoodC l r (S.set i true) := by
  refine ⟨by rw [List.length_set]; exact h.len, fun k hk => ?_⟩
  rw [atB_set (by rw [h.len]; exact hi)] at hk
  by_cases e : k = i
  · subst e
    unfold stepC at hs
    rw [Bool.or_eq_true, Bool.and_eq_true, List.any_eq_true] at hs
    rcases hs with hs | ⟨hw, t, ht, hx⟩
    · exact .use hi hs
    · have hb := nextL_lt hok hi t ht
      exact .via (k := t.toNat) hi (by simpa using hw) ((nextL_iff hi).1 (by rwa [Int.toNat_of_nonneg hb.1])) (h.sound _ hx)
  · rw [if_neg e] at hk
    exact h.sound k hk
def midC (l : List Mac) (r : Nat) (S S' : List Bool) (b : Bool) (ii : Int) : Prop :=
  GoodC l r S' ∧ (b = false → S' = S ∧ ∀ k : Nat, ii < (k : Int) → k < l.length → stepC l r S' k = true → atB S' k = true) ∧ (b = true → leftR S' < leftR S)
theorem midC.had {l : List Mac} {r : Nat} {S S' : List Bool} {b : Bool} {k : Nat} (h : midC l r S S' b k) (hs : stepC l r S' k = true → atB S' k = true) : midC l r S S' b ((k : Int) - 1) :=
  ⟨h.1, fun hb => ⟨(h.2.1 hb).1, fun j h1 h2 h3 => by
    by_cases e : j = k
    · subst e; exact hs h3
    · exact (h.2.1 hb).2 j (by omega) h2 h3⟩, h.2.2⟩
theorem midC.new {l : List Mac} (hok : MacsOk l) {r : Nat} {S S' : List Bool} {b : Bool} {k : Nat} (hk : k < l.length) (h : midC l r S S' b k) (hs : stepC l r S' k = true) (ha : atB S' k = false) : midC l r S (S'.set k true) true ((k : Int) - 1) := by
  refine ⟨h.1.new hok hk hs, (fun hb => by cases hb), fun _ => ?_⟩
  have h1 := leftR_set (S := S') (i := k) (by rw [h.1.len]; exact hk) ha
  cases b
  · rw [← (h.2.1 rfl).1]; omega
  · have := h.2.2 rfl; omega

/-! ### What is reached -/
structure GoodQ (l : List Mac) (S : List Bool) : Prop where
  len : S.length = l.length
  sound : ∀ i, atB S i = true → Reach l i
  first : atB S 0 = true
theorem GoodQ.done {l : List Mac} (hok : MacsOk l) {S : List Bool} (h : GoodQ l S) (hc : ∀ i, i < l.length → atB S i = true → ∀ k ∈ nextL l i, atB S k.toNat = true) : S = reachW l :=
  GoodR.done hok ⟨h.len, h.sound, (fun t ht => by cases ht), fun i hi hs k hk => .inl (hc i hi hs k hk), .inl h.first⟩
theorem GoodQ.begin {l : List Mac} (hok : MacsOk l) : GoodQ l ((List.replicate l.length false).set 0 true) := by
  have h0 := hok.some_
  have hl : 0 < (List.replicate l.length false).length := by rw [List.length_replicate]; exact h0
  refine ⟨by rw [List.length_set, List.length_replicate], fun i hi => ?_, by rw [atB_set hl, if_pos rfl]⟩
  rw [atB_set hl] at hi
  by_cases e : i = 0
  · subst e; exact .first
  · rw [if_neg e, atB_none] at hi; cases hi
theorem GoodQ.new {l : List Mac} (hok : MacsOk l) {S : List Bool} (h : GoodQ l S) {i : Nat} (hi : i < l.length) (hs : atB S i = true) {k : Int} (hk : k ∈ nextL l i) : GoodQ l (S.set k.toNat true) := by
  have hb := nextL_lt hok hi k hk
  have hl : k.toNat < S.length := by rw [h.len]; omega
  refine ⟨by rw [List.length_set]; exact h.len, fun j hj => ?_, by rw [atB_set hl]; split <;> first | rfl | exact h.first⟩
  rw [atB_set hl] at hj
  by_cases e : j = k.toNat
  · rw [e]
    exact .next (h.sound i hs) ((nextL_iff hi).1 (by rwa [Int.toNat_of_nonneg hb.1])) (by omega)
  · rw [if_neg e] at hj
    exact h.sound j hj
def midQ (l : List Mac) (S S' : List Bool) (b : Bool) (i : Nat) : Prop :=
  GoodQ l S' ∧ (b = false → S' = S ∧ ∀ k : Nat, k < i → k < l.length → atB S' k = true → ∀ t ∈ nextL l k, atB S' t.toNat = true) ∧ (b = true → leftR S' < leftR S)
theorem midQ.had {l : List Mac} {S S' : List Bool} {b : Bool} {i : Nat} (h : midQ l S S' b i) (hs : i < l.length → atB S' i = true → ∀ t ∈ nextL l i, atB S' t.toNat = true) : midQ l S S' b (i + 1) :=
  ⟨h.1, fun hb => ⟨(h.2.1 hb).1, fun j h1 h2 h3 => by
    by_cases e : j = i
    · subst e; exact hs h2 h3
    · exact (h.2.1 hb).2 j (by omega) h2 h3⟩, h.2.2⟩
theorem midQ.new {l : List Mac} (hok : MacsOk l) {S S' : List Bool} {b : Bool} {i j : Nat} (h : midQ l S S' b i) (hi : i < l.length) (hs : atB S' i = true) {k : Int} (hk : k ∈ nextL l i) (ha : atB S' k.toNat = false) : midQ l S (S'.set k.toNat true) true j := by
  have hb := nextL_lt hok hi k hk
  refine ⟨h.1.new hok hi hs hk, (fun hb => by cases hb), fun _ => ?_⟩
  have h1 := leftR_set (S := S') (i := k.toNat) (by rw [h.1.len]; omega) ha
  cases b
  · rw [← (h.2.1 rfl).1]; omega
  · have := h.2.2 rfl; omega
end Go.Proofs.YtemakpjickbmnaaDoor

/- The document's answer: what an instruction reads and writes; where it goes on; what is quiet. -/
namespace Go.Proofs.YtemakpjickbmnaaDoor
open Go.RowKit
set_option linter.unusedSimpArgs false
set_option linter.unusedVariables false

set_option maxHeartbeats 1000000 in
theorem macReads_calls (m : Mac) {len : Nat} (hm : MacOk m len) (r : Nat) (hr : r < 16) (w : World) (R : Ending → World → Prop) (hR : ∀ w', Below w.heap.size w w' → R (.returned (.bool (readsM m r))) w') :
    Calls Tryd.prog 61 #[.agg #[.int .i64 m.op, .int .i64 m.dst, .int .i64 m.a, .int .i64 m.b, .int .i64 m.n], .int .i64 (r : Int)] w R := by
  have hk : known m.op = true := by have := hm.op1; have := hm.op47; simp [known]; omega
  obtain ⟨f1, f2, f3, f4, f5, f6, f7, f8, f9, f10⟩ := fields_has _ hk
  unfold readsM at hR
  have r0 : (0 : Int) ≤ (r : Int) := by omega
  by_cases h44 : m.op = 44
  · rw [if_pos h44] at hR
    have j44 : (m.op == 44) = true := by simpa using h44
    have HR := Lib.hid hR
    clear hR h44 f1 f2 f3 f4 f5 f6 f7 f8 f9 f10 hk
    go_enter Tryd.func61, Tryd.ntmps61
    by_cases h6 : r < 6
    · rw [decide_eq_true h6] at HR
      have h6' : (r : Int) < 6 := by omega
      clear h6
      go_wp2
      exact HR.out _ bl0
    · rw [decide_eq_false h6] at HR
      have h6' : ¬ (r : Int) < 6 := by omega
      clear h6
      go_wp2
      exact HR.out _ bl0
  rw [if_neg h44] at hR
  have j44 : (m.op == 44) = false := by simpa using h44
  clear h44
  by_cases h45 : m.op = 45
  · rw [if_pos h45] at hR
    have j45 : (m.op == 45) = true := by simpa using h45
    have HR := Lib.hid hR
    clear hR h45 f1 f2 f3 f4 f5 f6 f7 f8 f9 f10 hk
    go_enter Tryd.func61, Tryd.ntmps61
    by_cases hz : r = 0
    · rw [decide_eq_true (.inl hz)] at HR
      have hz' : ((r : Int) == 0) = true := by simp [hz]
      clear hz
      go_wp2
      exact HR.out _ bl0
    · have hz' : ((r : Int) == 0) = false := by simp; omega
      by_cases h6 : 6 ≤ r
      · have h6' : (6 : Int) ≤ (r : Int) := by omega
        by_cases h14 : r < 14
        · rw [decide_eq_true (.inr ⟨h6, h14⟩)] at HR
          have h14' : (r : Int) < 14 := by omega
          clear hz h6 h14
          go_wp2
          exact HR.out _ bl0
        · rw [decide_eq_false (fun h => h.elim hz (fun h => h14 h.2))] at HR
          have h14' : ¬ (r : Int) < 14 := by omega
          clear hz h6 h14
          go_wp2
          exact HR.out _ bl0
      · rw [decide_eq_false (fun h => h.elim hz (fun h => h6 h.1))] at HR
        have h6' : ¬ (6 : Int) ≤ (r : Int) := by omega
        clear hz h6
        go_wp2
        exact HR.out _ bl0
  rw [if_neg h45] at hR
  have j45 : (m.op == 45) = false := by simpa using h45
  have F4 : hasN (fieldsOf m.op) 97 = (shapeOf m.op).a := f4
  have F5 : hasN (fieldsOf m.op) 98 = (shapeOf m.op).b := f5
  have ea : decide (m.a = (r : Int)) = (m.a == (r : Int)) := by rw [Bool.eq_iff_iff]; simp
  have eb : decide (m.b = (r : Int)) = (m.b == (r : Int)) := by rw [Bool.eq_iff_iff]; simp
  rw [ea, eb] at hR
  have HR := Lib.hid hR
  have F4' := Lib.hid F4
  have F5' := Lib.hid F5
  have hsz : (fieldsOf m.op).size ≤ 100 := by omega
  clear hR h45 f1 f2 f3 f4 f5 f6 f7 f8 f9 f10 hk F4 F5 ea eb
  go_enter Tryd.func61, Tryd.ntmps61
  go_wp2_with fail
  refine Fields_calls _ _ _ (fun w1 hb1 => ?_)
  have p2 : w1.cell? ⟨w.heap.size, 2, none⟩ = some (.int .i64 m.a) := by rw [hb1.cell (by simp)]; simp
  have p3 : w1.cell? ⟨w.heap.size, 3, none⟩ = some (.int .i64 m.b) := by rw [hb1.cell (by simp)]; simp
  have hz1 : w.heap.size < w1.heap.size := by have := hb1.size; simp at this; omega
  have Hb1 := Lib.hid ((by exact bl0 : Below w.heap.size w (w.alloc (Obj.cells #[.int .i64 m.op, .int .i64 m.dst, .int .i64 m.a, .int .i64 m.b, .int .i64 m.n] 36))).trans (hb1.mono (by simp)))
  clear hb1
  generalize fieldsOf m.op = f at *
  generalize shapeOf m.op = s at *
  obtain ⟨sd, sa, sb, sn⟩ := s
  go_wp2_with fail
  refine Has_any f _ (by omega) (by omega) hsz _ _ ?_
  rw [F4'.out]
  cases sa
  · go_wp2_with fail
    refine Has_any f _ (by omega) (by omega) hsz _ _ ?_
    rw [F5'.out]
    cases sb
    · go_wp2
      exact HR.out _ Hb1.out
    · go_wp2
      exact HR.out _ Hb1.out
  · by_cases ha : m.a = (r : Int)
    · have ja : (m.a == (r : Int)) = true := by simpa using ha
      rw [ja] at HR
      clear ha
      go_wp2
      exact HR.out _ Hb1.out
    · have ja : (m.a == (r : Int)) = false := by simpa using ha
      rw [ja] at HR
      clear ha
      go_wp2_with fail
      refine Has_any f _ (by omega) (by omega) hsz _ _ ?_
      rw [F5'.out]
      cases sb
      · go_wp2
        exact HR.out _ Hb1.out
      · go_wp2
        exact HR.out _ Hb1.out
set_option maxHeartbeats 1000000 in
theorem macWrites_calls (m : Mac) {len : Nat} (hm : MacOk m len) (r : Nat) (hr : r < 16) (w : World) (R : Ending → World → Prop) (hR : ∀ w', Below w.heap.size w w' → R (.returned (.bool (writesM m r))) w') :
    Calls Tryd.prog 62 #[.agg #[.int .i64 m.op, .int .i64 m.dst, .int .i64 m.a, .int .i64 m.b, .int .i64 m.n], .int .i64 (r : Int)] w R := by
  have hk : known m.op = true := by have := hm.op1; have := hm.op47; simp [known]; omega
  obtain ⟨f1, f2, f3, f4, f5, f6, f7, f8, f9, f10⟩ := fields_has _ hk
  unfold writesM at hR
  have r0 : (0 : Int) ≤ (r : Int) := by omega
  by_cases h44 : m.op = 44
  · rw [if_pos h44] at hR
    have j44 : (m.op == 44) = true := by simpa using h44
    have HR := Lib.hid hR
    clear hR h44 f1 f2 f3 f4 f5 f6 f7 f8 f9 f10 hk
    go_enter Tryd.func62, Tryd.ntmps62
    by_cases h6 : r < 6
    · rw [decide_eq_true (.inl h6)] at HR
      have h6' : (r : Int) < 6 := by omega
      clear h6
      go_wp2
      exact HR.out _ bl0
    · have h6' : ¬ (r : Int) < 6 := by omega
      by_cases h14 : 14 ≤ r
      · rw [decide_eq_true (.inr h14)] at HR
        have h14' : (14 : Int) ≤ (r : Int) := by omega
        clear h6 h14
        go_wp2
        exact HR.out _ bl0
      · rw [decide_eq_false (fun h => h.elim h6 h14)] at HR
        have h14' : ¬ (14 : Int) ≤ (r : Int) := by omega
        clear h6 h14
        go_wp2
        exact HR.out _ bl0
  rw [if_neg h44] at hR
  have j44 : (m.op == 44) = false := by simpa using h44
  have F3 : hasN (fieldsOf m.op) 100 = (shapeOf m.op).d := f3
  have ea : decide (m.dst = (r : Int)) = (m.dst == (r : Int)) := by rw [Bool.eq_iff_iff]; simp
  rw [ea] at hR
  have HR := Lib.hid hR
  have F3' := Lib.hid F3
  have hsz : (fieldsOf m.op).size ≤ 100 := by omega
  clear hR h44 f1 f2 f3 f4 f5 f6 f7 f8 f9 f10 hk F3 ea
  go_enter Tryd.func62, Tryd.ntmps62
  go_wp2_with fail
  refine Fields_calls _ _ _ (fun w1 hb1 => ?_)
  have p1 : w1.cell? ⟨w.heap.size, 1, none⟩ = some (.int .i64 m.dst) := by rw [hb1.cell (by simp)]; simp
  have hz1 : w.heap.size < w1.heap.size := by have := hb1.size; simp at this; omega
  have Hb1 := Lib.hid ((by exact bl0 : Below w.heap.size w (w.alloc (Obj.cells #[.int .i64 m.op, .int .i64 m.dst, .int .i64 m.a, .int .i64 m.b, .int .i64 m.n] 36))).trans (hb1.mono (by simp)))
  clear hb1
  generalize fieldsOf m.op = f at *
  generalize shapeOf m.op = s at *
  obtain ⟨sd, sa, sb, sn⟩ := s
  go_wp2_with fail
  refine Has_any f _ (by omega) (by omega) hsz _ _ ?_
  rw [F3'.out]
  cases sd
  · go_wp2
    exact HR.out _ Hb1.out
  · go_wp2
    exact HR.out _ Hb1.out
set_option maxHeartbeats 1000000 in
theorem Goes_calls (v : Value) (l : List Mac) (hok : MacsOk l) (i k : Nat) (hi : i < l.length) (hk5 : k ≤ 5000) (w : World) (h : rpMac.SL w w.heap.size l v) (R : Ending → World → Prop) (hR : ∀ w', Below w.heap.size w w' → R (.returned (.bool (goesB l i k))) w') :
    Calls Tryd.prog 38 #[v, .int .i64 (i : Int), .int .i64 (k : Int)] w R := by
  have hm := hok.at_ hi
  have hfew := hok.few
  have hk : known (atL l i).op = true := by have := hm.op1; have := hm.op47; simp [known]; omega
  obtain ⟨f1, f2, f3, f4, f5, f6, f7, f8, f9, f10⟩ := fields_has _ hk
  have F7 : hasN (fieldsOf (atL l i).op) 116 = jumpsM (atL l i) := by rw [← shape_jump hm]; exact f7
  have hsz : (fieldsOf (atL l i).op).size ≤ 100 := by omega
  clear f1 f2 f3 f4 f5 f6 f7 f8 f9 f10 hk
  obtain ⟨A, c, rfl, hmx, hcap, hs⟩ := h.cases_
  obtain ⟨b, off, m, rfl, hb, e, c0, c1, c2, c3, c4⟩ := hs.mac_at hi
  have em : atL l i = m := by
    rw [atL_get hi]
    rw [List.getElem?_eq_getElem hi] at e
    exact Option.some.inj e
  unfold goesB nextL at hR
  rw [em] at hm hR F7 hsz
  have i0 : (0 : Int) ≤ (i : Int) := by omega
  have i1 : (i : Int) < (l.length : Int) := by omega
  have k0 : (0 : Int) ≤ (k : Int) := by omega
  have HF7 := Lib.hid F7
  clear hs h e em hok F7 hm
  by_cases h45 : m.op = 45
  · rw [if_pos h45] at hR
    have j45 : (m.op == 45) = true := by simpa using h45
    have HR := Lib.hid (fun w' hb => by have := hR w' hb; simpa using this : ∀ w', Below w.heap.size w w' → R (.returned (.bool false)) w')
    clear hR h45
    go_enter Tryd.func38, Tryd.ntmps38
    go_wp2
    exact HR.out _ bl0
  rw [if_neg h45] at hR
  have j45 : (m.op == 45) = false := by simpa using h45
  clear h45
  go_enter Tryd.func38, Tryd.ntmps38
  go_wp2_with fail
  refine Fields_calls _ _ _ (fun w1 hb1 => ?_)
  have p0 : w1.cell? ⟨w.heap.size, 0, none⟩ = some (.int .i64 m.op) := by rw [hb1.cell (by simp)]; simp
  have p4 : w1.cell? ⟨w.heap.size, 4, none⟩ = some (.int .i64 m.n) := by rw [hb1.cell (by simp)]; simp
  have hz1 : w.heap.size < w1.heap.size := by have := hb1.size; simp at this; omega
  have Hb1 := Lib.hid ((by exact bl0 : Below w.heap.size w (w.alloc (Obj.cells #[.int .i64 m.op, .int .i64 m.dst, .int .i64 m.a, .int .i64 m.b, .int .i64 m.n] 36))).trans (hb1.mono (by simp)))
  clear hb1 c0 c1 c2 c3 c4
  generalize fieldsOf m.op = f at *
  go_wp2_with fail
  refine Has_any f _ (by omega) (by omega) hsz _ _ ?_
  rw [HF7.out]
  by_cases h37 : m.op = 37
  · have hj : jumpsM m = true := by unfold jumpsM; simp; omega
    have j37 : (m.op != 37) = false := by simpa using h37
    rw [if_pos h37] at hR
    rw [hj]
    by_cases hn : m.n = (k : Int)
    · have jn : (m.n == (k : Int)) = true := by simpa using hn
      have HR := Lib.hid (fun w' hb => by have := hR w' hb; simpa [hn] using this : ∀ w', Below w.heap.size w w' → R (.returned (.bool true)) w')
      clear hR h37 hj hn HF7
      go_wp2
      exact HR.out _ Hb1.out
    · have jn : (m.n == (k : Int)) = false := by simpa using hn
      have HR := Lib.hid (fun w' hb => by have := hR w' hb; simpa [hn, Ne.symm hn, eq_comm] using this : ∀ w', Below w.heap.size w w' → R (.returned (.bool false)) w')
      clear hR h37 hj hn HF7
      go_wp2
      exact HR.out _ Hb1.out
  · have j37 : (m.op != 37) = true := by simpa using h37
    rw [if_neg h37] at hR
    have hki : ((k : Int) = (i : Int) + 1) ↔ ((k : Int) == (i : Int) + 1) = true := by simp
    cases hj : jumpsM m
    · rw [hj, if_neg (by simp)] at hR
      by_cases hk1 : (k : Int) = (i : Int) + 1
      · have jk : ((k : Int) == (i : Int) + 1) = true := hki.1 hk1
        have HR := Lib.hid (fun w' hb => by have := hR w' hb; simpa [hk1] using this : ∀ w', Below w.heap.size w w' → R (.returned (.bool true)) w')
        clear hR h37 hj hk1 HF7 hki
        go_wp2
        exact HR.out _ Hb1.out
      · have jk : ((k : Int) == (i : Int) + 1) = false := by simpa using hk1
        have HR := Lib.hid (fun w' hb => by have := hR w' hb; simpa [hk1] using this : ∀ w', Below w.heap.size w w' → R (.returned (.bool false)) w')
        clear hR h37 hj hk1 HF7 hki
        go_wp2
        exact HR.out _ Hb1.out
    · rw [hj, if_pos rfl] at hR
      by_cases hn : m.n = (k : Int)
      · have jn : (m.n == (k : Int)) = true := by simpa using hn
        have HR := Lib.hid (fun w' hb => by have := hR w' hb; simpa [hn] using this : ∀ w', Below w.heap.size w w' → R (.returned (.bool true)) w')
        clear hR h37 hj hn HF7 hki
        go_wp2
        exact HR.out _ Hb1.out
      · have jn : (m.n == (k : Int)) = false := by simpa using hn
        by_cases hk1 : (k : Int) = (i : Int) + 1
        · have jk : ((k : Int) == (i : Int) + 1) = true := hki.1 hk1
          have HR := Lib.hid (fun w' hb => by have := hR w' hb; simpa [hk1] using this : ∀ w', Below w.heap.size w w' → R (.returned (.bool true)) w')
          clear hR h37 hj hk1 HF7 hki hn
          go_wp2
          exact HR.out _ Hb1.out
        · have jk : ((k : Int) == (i : Int) + 1) = false := by simpa using hk1
          have HR := Lib.hid (fun w' hb => by have := hR w' hb; simpa [hk1, Ne.symm hn] using this : ∀ w', Below w.heap.size w w' → R (.returned (.bool false)) w')
          clear hR h37 hj hk1 HF7 hki hn
          go_wp2
          exact HR.out _ Hb1.out
set_option maxHeartbeats 400000 in
theorem jumping_calls (m : Mac) (w : World) (R : Ending → World → Prop) (hR : ∀ w', Below w.heap.size w w' → R (.returned (.bool (jumpsM m))) w') :
    Calls Tryd.prog 39 #[.agg #[.int .i64 m.op, .int .i64 m.dst, .int .i64 m.a, .int .i64 m.b, .int .i64 m.n]] w R := by
  unfold jumpsM at hR
  by_cases h37 : 37 ≤ m.op
  · by_cases h43 : m.op ≤ 43
    · rw [decide_eq_true ⟨h37, h43⟩] at hR
      have HR := Lib.hid hR
      clear hR
      go_enter Tryd.func39, Tryd.ntmps39
      go_wp2
      exact HR.out _ bl0
    · rw [decide_eq_false (fun h => h43 h.2)] at hR
      have HR := Lib.hid hR
      clear hR
      go_enter Tryd.func39, Tryd.ntmps39
      go_wp2
      exact HR.out _ bl0
  · rw [decide_eq_false (fun h => h37 h.1)] at hR
    have HR := Lib.hid hR
    clear hR
    go_enter Tryd.func39, Tryd.ntmps39
    go_wp2
    exact HR.out _ bl0
end Go.Proofs.YtemakpjickbmnaaDoor

/- The document's rounds: one register's liveness; what is reached. (printed by genpr2.py) -/
namespace Go.Proofs.YtemakpjickbmnaaDoor
open Go.RowKit
set_option linter.unusedSimpArgs false
set_option linter.unusedVariables false

/-- What an instruction of a row that is read holds, in worlds that keep the row. -/
theorem mac_held {w : World} {l : List Mac} {A : Option Addr} {c : Nat} (h : rpMac.SL w w.heap.size l (.slice A l.length c)) {k : Nat} (hk : k < l.length) :
    ∃ b off, A = some ⟨b, off, none⟩ ∧ ∀ w', Below w.heap.size w w' → b < w'.heap.size ∧ w'.cell? ⟨b, off + k * 5, none⟩ = some (.int .i64 (atL l k).op) ∧ w'.cell? ⟨b, off + k * 5 + 1, none⟩ = some (.int .i64 (atL l k).dst) ∧ w'.cell? ⟨b, off + k * 5 + 2, none⟩ = some (.int .i64 (atL l k).a) ∧ w'.cell? ⟨b, off + k * 5 + 3, none⟩ = some (.int .i64 (atL l k).b) ∧ w'.cell? ⟨b, off + k * 5 + 4, none⟩ = some (.int .i64 (atL l k).n) := by
  obtain ⟨b, off, m, rfl, hb, e, c0, c1, c2, c3, c4⟩ := h.mac_at hk
  have em : atL l k = m := by
    rw [atL_get hk]
    rw [List.getElem?_eq_getElem hk] at e
    exact Option.some.inj e
  rw [em]
  exact ⟨b, off, rfl, fun w' hb' => ⟨Nat.lt_of_lt_of_le hb hb'.size, (hb'.cell hb).trans c0, (hb'.cell (p := ⟨b, off + k * 5 + 1, none⟩) hb).trans c1, (hb'.cell (p := ⟨b, off + k * 5 + 2, none⟩) hb).trans c2, (hb'.cell (p := ⟨b, off + k * 5 + 3, none⟩) hb).trans c3, (hb'.cell (p := ⟨b, off + k * 5 + 4, none⟩) hb).trans c4⟩⟩
theorem jump_has {m : Mac} {len : Nat} (hm : MacOk m len) : (fieldsOf m.op).size ≤ 100 ∧ hasN (fieldsOf m.op) 116 = jumpsM m := by
  have hk : known m.op = true := by have := hm.op1; have := hm.op47; simp [known]; omega
  obtain ⟨f1, f2, f3, f4, f5, f6, f7, f8, f9, f10⟩ := fields_has _ hk
  exact ⟨by omega, by rw [← shape_jump hm]; exact f7⟩
set_option maxRecDepth 100000 in
set_option maxHeartbeats 4000000 in
theorem LiveOne_calls (v : Value) (l : List Mac) (hok : MacsOk l) (r : Nat) (hr : r < 16) (w : World) (h : rpMac.SL w w.heap.size l v) (R : Ending → World → Prop)
    (hR : ∀ w' g, Below w.heap.size w w' → w.heap.size ≤ g → w'.heap[g]? = some (.cells (boolsA (liveC l r)) 4 (0, 0)) → R (.returned (.slice (some ⟨g, 0, none⟩) l.length l.length)) w') :
    Calls Tryd.prog 40 #[v, .int .i64 (r : Int)] w R := by
  have hfew := hok.few
  have hpos := hok.some_
  obtain ⟨A, c, rfl, hmx, hcap, hs⟩ := h.cases_
  have HR := Lib.hid hR
  have Hs := Lib.hid hs
  have hmk := make_bools2 w l.length hfew
  obtain ⟨W0, hW0⟩ : ∃ W0, W0 = w.alloc (.cells (boolsA (List.replicate l.length false)) 4) := ⟨_, rfl⟩
  rw [← hW0] at hmk
  have hb0 : Below w.heap.size w W0 := by rw [hW0]; exact bl0
  have hblk0 : W0.heap[w.heap.size]? = some (.cells (boolsA (List.replicate l.length false)) 4 (0, 0)) := by rw [hW0]; exact heap_alloc_new _ _
  clear hR hs h hW0
  go_enter Tryd.func40, Tryd.ntmps40
  go_wp2
  go_loopg [6] (leftR (List.replicate l.length false) + 1) (fun g chg wr => ∃ (S : List Bool) (b : Bool), chg = .bool b ∧ g = leftR S + b.toNat ∧ Hid (GoodC l r S) ∧ Hid (b = false → ∀ i, i < l.length → stepC l r S i = true → atB S i = true) ∧ Hid (Below w.heap.size w wr) ∧ Hid (wr.heap[w.heap.size]? = some (.cells (boolsA S) 4 (0, 0))))
  case atStart => exact ⟨_, true, rfl, rfl, Lib.hid GoodC.begin, Lib.hid (fun h => (by cases h)), Lib.hid hb0, Lib.hid hblk0⟩
  case round =>
    obtain ⟨S, b, rfl, rfl, Hgood, Hcl, Hb, Hblk⟩ := hrel
    clear hb0 hblk0 hmk
    cases b
    · have e := Hgood.out.done hok (Hcl.out rfl)
      have H1 := Lib.hid (HR.out _ _ Hb.out (Nat.le_refl _) (by rw [← e]; exact Hblk.out))
      clear e
      go_wp2
      exact H1.out
    · clear Hcl
      go_wp2
      go_loopg [6, 7] l.length (fun g chg i wx => ∃ (S' : List Bool) (b : Bool) (ii : Int), chg = .bool b ∧ i = .int .i64 ii ∧ -1 ≤ ii ∧ ii < (l.length : Int) ∧ g = (ii + 1).toNat ∧ Hid (midC l r S S' b ii) ∧ Hid (Below w.heap.size w wx) ∧ Hid (wx.heap[w.heap.size]? = some (.cells (boolsA S') 4 (0, 0))))
      case atStart => exact ⟨S, false, _, rfl, rfl, by omega, by omega, by omega, Lib.hid ⟨Hgood.out, fun _ => ⟨rfl, fun k h1 h2 => by omega⟩, fun h => by cases h⟩, Hb, Hblk⟩
      case round =>
        obtain ⟨S', b, ii, rfl, rfl, h1, h2, rfl, Hmid, Hb2, Hblk2⟩ := hrel
        have hz2 := Hb2.out.size
        by_cases hii : 0 ≤ ii
        · obtain ⟨k, rfl⟩ : ∃ k : Nat, ii = (k : Int) := ⟨ii.toNat, by omega⟩
          have hk : k < l.length := by omega
          have hSl := Hmid.out.1.len
          have hm := hok.at_ hk
          obtain ⟨b6, o6, rfl, hheld⟩ := mac_held Hs.out hk
          have hany := nextL_any hok hk hSl
          have hstp : stepC l r S' k = (readsM (atL l k) r || (!writesM (atL l k) r && ((decide (k + 1 < l.length) && atB S' (k + 1) && goesB l k (k + 1)) || (jumpsM (atL l k) && atB S' (atL l k).n.toNat)))) := by unfold stepC; rw [hany]
          have hjn := fun hj : jumpsM (atL l k) = true => hm.jump (jumps_op.1 hj).1 (jumps_op.1 hj).2
          have hhas := jump_has hm
          have q1 : wr.cell? ⟨w.heap.size, k, none⟩ = some (.bool (atB S' k)) := by rw [blk_cell' Hblk2.out]; exact boolsA_get (by omega)
          have lG : w.heap.size < wr.heap.size := blk_lt Hblk2.out
          have Hheld := Lib.hid hheld
          generalize atL l k = m at *
          obtain ⟨lb, c0, c1, c2, c3, c4⟩ := Hheld.out wr Hb2.out
          have Hstp := Lib.hid hstp
          have Hjn := Lib.hid hjn
          have Hhas := Lib.hid hhas.2
          have hfs := hhas.1
          clear hheld hany hstp hjn hhas
          cases ha : atB S' k
          · rw [ha] at q1
            have Ha := Lib.hid ha
            clear ha
            go_wp2_with fail
            refine macReads_calls m hm r hr _ _ (fun w5 hb5 => ?_)
            have Hb5 := Lib.hid (Hb2.out.trans (hb5.mono hz2))
            have Hblk5 := Lib.hid ((hb5.block _ lG).trans Hblk2.out)
            clear hb5 q1 c0 c1 c2 c3 c4 lb
            obtain ⟨lb, c0, c1, c2, c3, c4⟩ := Hheld.out w5 Hb5.out
            have lG5 : w.heap.size < w5.heap.size := blk_lt Hblk5.out
            have hz5 := Hb5.out.size
            cases hre : readsM m r
            · have i0 : (0 : Int) ≤ (k : Int) := by omega
              have i1 : (k : Int) < (l.length : Int) := by omega
              go_wp2_with fail
              refine macWrites_calls m hm r hr _ _ (fun w6 hb6 => ?_)
              have Hb6 := Lib.hid (Hb5.out.trans (hb6.mono hz5))
              have Hblk6 := Lib.hid ((hb6.block _ lG5).trans Hblk5.out)
              clear hb6 c0 c1 c2 c3 c4 lb
              obtain ⟨lb, c0, c1, c2, c3, c4⟩ := Hheld.out w6 Hb6.out
              have lG6 : w.heap.size < w6.heap.size := blk_lt Hblk6.out
              have hz6 := Hb6.out.size
              cases hwr : writesM m r
              · by_cases hn1 : k + 1 < l.length
                · have i2 : (k : Int) + 1 < (l.length : Int) := by omega
                  have i3 : (0 : Int) ≤ (k : Int) + 1 := by omega
                  have d1 : decide (k + 1 < l.length) = true := decide_eq_true hn1
                  have q3 : w6.cell? ⟨w.heap.size, k + 1, none⟩ = some (.bool (atB S' (k + 1))) := by rw [blk_cell' Hblk6.out]; exact boolsA_get (by omega)
                  cases hv1 : atB S' (k + 1)
                  · rw [hv1] at q3
                    go_wp2_with fail
                    refine Fields_calls _ _ _ (fun w7 hb7 => ?_)
                    have Hb7 := Lib.hid (Hb6.out.trans (hb7.mono hz6))
                    have Hblk7 := Lib.hid ((hb7.block _ lG6).trans Hblk6.out)
                    clear hb7 c0 c1 c2 c3 c4 lb
                    obtain ⟨lb, c0, c1, c2, c3, c4⟩ := Hheld.out w7 Hb7.out
                    have lG7 : w.heap.size < w7.heap.size := blk_lt Hblk7.out
                    have hz7 := Hb7.out.size
                    go_wp2_with fail
                    refine Has_any _ _ (by omega) (by omega) hfs _ _ ?_
                    rw [Hhas.out]
                    cases hj : jumpsM m
                    · have hst : stepC l r S' k = false := by rw [Hstp.out, hre, hwr, d1, hv1, hj]; simp
                      have Hmd := Lib.hid (Hmid.out.had (fun e => by rw [hst] at e; cases e))
                      clear hst
                      go_wp2
                      go_roundg k
                      case measure => omega
                      case rel => exact ⟨S', b, (k : Int) - 1, rfl, rfl, by omega, by omega, by omega, Hmd, Hb7, Hblk7⟩
                    · obtain ⟨y, hy⟩ : ∃ y : Nat, m.n = (y : Int) := ⟨m.n.toNat, by have := Hjn.out hj; omega⟩
                      have hyl : y < l.length := by have := Hjn.out hj; omega
                      rw [hy] at c4
                      have y0 : (0 : Int) ≤ (y : Int) := by omega
                      have y1 : (y : Int) < (l.length : Int) := by omega
                      have q2 : w7.cell? ⟨w.heap.size, y, none⟩ = some (.bool (atB S' y)) := by rw [blk_cell' Hblk7.out]; exact boolsA_get (by omega)
                      have hyn : atB S' m.n.toNat = atB S' y := by rw [hy, Int.toNat_natCast]
                      have Hyn := Lib.hid hyn
                      clear hy hyn
                      cases hv : atB S' y
                      · rw [hv] at q2
                        have hst : stepC l r S' k = false := by rw [Hstp.out, hre, hwr, d1, hv1, hj, Hyn.out, hv]; simp
                        have Hmd := Lib.hid (Hmid.out.had (fun e => by rw [hst] at e; cases e))
                        clear hst
                        go_wp2
                        go_roundg k
                        case measure => omega
                        case rel => exact ⟨S', b, (k : Int) - 1, rfl, rfl, by omega, by omega, by omega, Hmd, Hb7, Hblk7⟩
                      · rw [hv] at q2
                        have hst : stepC l r S' k = true := by rw [Hstp.out, hre, hwr, d1, hv1, hj, Hyn.out, hv]; simp
                        have hmd := Hmid.out.new hok hk hst Ha.out
                        have Hmd := Lib.hid hmd
                        have f1 : w7.frozen? ⟨w.heap.size, k, none⟩ = false := by simp [World.frozen?, Hblk7.out]
                        have s1 : w7.cell? ⟨w.heap.size, k, none⟩ = some (.bool false) := by rw [blk_cell' Hblk7.out, ← Ha.out]; exact boolsA_get (by omega)
                        clear hst hmd
                        go_wp2
                        go_roundg k
                        case measure => omega
                        case rel => exact ⟨S'.set k true, true, (k : Int) - 1, rfl, rfl, by omega, by omega, by omega, Hmd, Lib.hid (Hb7.out.setCell (p := ⟨w.heap.size, k, none⟩) (Nat.le_refl _) _), Lib.hid (by rw [block_set Hblk7.out, boolsA_set])⟩
                  · rw [hv1] at q3
                    go_wp2_with fail
                    rw [show ((k : Int) + 1) = ((k + 1 : Nat) : Int) from by omega]
                    refine Goes_calls _ l hok k (k + 1) hk (by omega) _ (Hs.out.up Hb6.out hz6) _ (fun w7 hb7 => ?_)
                    have Hb7 := Lib.hid (Hb6.out.trans (hb7.mono hz6))
                    have Hblk7 := Lib.hid ((hb7.block _ lG6).trans Hblk6.out)
                    clear hb7 c0 c1 c2 c3 c4 lb
                    obtain ⟨lb, c0, c1, c2, c3, c4⟩ := Hheld.out w7 Hb7.out
                    have lG7 : w.heap.size < w7.heap.size := blk_lt Hblk7.out
                    have hz7 := Hb7.out.size
                    cases hg : goesB l k (k + 1)
                    · go_wp2_with fail
                      refine Fields_calls _ _ _ (fun w8 hb8 => ?_)
                      have Hb8 := Lib.hid (Hb7.out.trans (hb8.mono hz7))
                      have Hblk8 := Lib.hid ((hb8.block _ lG7).trans Hblk7.out)
                      clear hb8 c0 c1 c2 c3 c4 lb
                      obtain ⟨lb, c0, c1, c2, c3, c4⟩ := Hheld.out w8 Hb8.out
                      have lG8 : w.heap.size < w8.heap.size := blk_lt Hblk8.out
                      have hz8 := Hb8.out.size
                      go_wp2_with fail
                      refine Has_any _ _ (by omega) (by omega) hfs _ _ ?_
                      rw [Hhas.out]
                      cases hj : jumpsM m
                      · have hst : stepC l r S' k = false := by rw [Hstp.out, hre, hwr, d1, hv1, hg, hj]; simp
                        have Hmd := Lib.hid (Hmid.out.had (fun e => by rw [hst] at e; cases e))
                        clear hst
                        go_wp2
                        go_roundg k
                        case measure => omega
                        case rel => exact ⟨S', b, (k : Int) - 1, rfl, rfl, by omega, by omega, by omega, Hmd, Hb8, Hblk8⟩
                      · obtain ⟨y, hy⟩ : ∃ y : Nat, m.n = (y : Int) := ⟨m.n.toNat, by have := Hjn.out hj; omega⟩
                        have hyl : y < l.length := by have := Hjn.out hj; omega
                        rw [hy] at c4
                        have y0 : (0 : Int) ≤ (y : Int) := by omega
                        have y1 : (y : Int) < (l.length : Int) := by omega
                        have q2 : w8.cell? ⟨w.heap.size, y, none⟩ = some (.bool (atB S' y)) := by rw [blk_cell' Hblk8.out]; exact boolsA_get (by omega)
                        have hyn : atB S' m.n.toNat = atB S' y := by rw [hy, Int.toNat_natCast]
                        have Hyn := Lib.hid hyn
                        clear hy hyn
                        cases hv : atB S' y
                        · rw [hv] at q2
                          have hst : stepC l r S' k = false := by rw [Hstp.out, hre, hwr, d1, hv1, hg, hj, Hyn.out, hv]; simp
                          have Hmd := Lib.hid (Hmid.out.had (fun e => by rw [hst] at e; cases e))
                          clear hst
                          go_wp2
                          go_roundg k
                          case measure => omega
                          case rel => exact ⟨S', b, (k : Int) - 1, rfl, rfl, by omega, by omega, by omega, Hmd, Hb8, Hblk8⟩
                        · rw [hv] at q2
                          have hst : stepC l r S' k = true := by rw [Hstp.out, hre, hwr, d1, hv1, hg, hj, Hyn.out, hv]; simp
                          have hmd := Hmid.out.new hok hk hst Ha.out
                          have Hmd := Lib.hid hmd
                          have f1 : w8.frozen? ⟨w.heap.size, k, none⟩ = false := by simp [World.frozen?, Hblk8.out]
                          have s1 : w8.cell? ⟨w.heap.size, k, none⟩ = some (.bool false) := by rw [blk_cell' Hblk8.out, ← Ha.out]; exact boolsA_get (by omega)
                          clear hst hmd
                          go_wp2
                          go_roundg k
                          case measure => omega
                          case rel => exact ⟨S'.set k true, true, (k : Int) - 1, rfl, rfl, by omega, by omega, by omega, Hmd, Lib.hid (Hb8.out.setCell (p := ⟨w.heap.size, k, none⟩) (Nat.le_refl _) _), Lib.hid (by rw [block_set Hblk8.out, boolsA_set])⟩
                    · go_wp2_with fail
                      refine Fields_calls _ _ _ (fun w8 hb8 => ?_)
                      have Hb8 := Lib.hid (Hb7.out.trans (hb8.mono hz7))
                      have Hblk8 := Lib.hid ((hb8.block _ lG7).trans Hblk7.out)
                      clear hb8 c0 c1 c2 c3 c4 lb
                      obtain ⟨lb, c0, c1, c2, c3, c4⟩ := Hheld.out w8 Hb8.out
                      have lG8 : w.heap.size < w8.heap.size := blk_lt Hblk8.out
                      have hz8 := Hb8.out.size
                      go_wp2_with fail
                      refine Has_any _ _ (by omega) (by omega) hfs _ _ ?_
                      rw [Hhas.out]
                      cases hj : jumpsM m
                      · have hst : stepC l r S' k = true := by rw [Hstp.out, hre, hwr, d1, hv1, hg, hj]; simp
                        have hmd := Hmid.out.new hok hk hst Ha.out
                        have Hmd := Lib.hid hmd
                        have f1 : w8.frozen? ⟨w.heap.size, k, none⟩ = false := by simp [World.frozen?, Hblk8.out]
                        have s1 : w8.cell? ⟨w.heap.size, k, none⟩ = some (.bool false) := by rw [blk_cell' Hblk8.out, ← Ha.out]; exact boolsA_get (by omega)
                        clear hst hmd
                        go_wp2
                        go_roundg k
                        case measure => omega
                        case rel => exact ⟨S'.set k true, true, (k : Int) - 1, rfl, rfl, by omega, by omega, by omega, Hmd, Lib.hid (Hb8.out.setCell (p := ⟨w.heap.size, k, none⟩) (Nat.le_refl _) _), Lib.hid (by rw [block_set Hblk8.out, boolsA_set])⟩
                      · obtain ⟨y, hy⟩ : ∃ y : Nat, m.n = (y : Int) := ⟨m.n.toNat, by have := Hjn.out hj; omega⟩
                        have hyl : y < l.length := by have := Hjn.out hj; omega
                        rw [hy] at c4
                        have y0 : (0 : Int) ≤ (y : Int) := by omega
                        have y1 : (y : Int) < (l.length : Int) := by omega
                        have q2 : w8.cell? ⟨w.heap.size, y, none⟩ = some (.bool (atB S' y)) := by rw [blk_cell' Hblk8.out]; exact boolsA_get (by omega)
                        have hyn : atB S' m.n.toNat = atB S' y := by rw [hy, Int.toNat_natCast]
                        have Hyn := Lib.hid hyn
                        clear hy hyn
                        cases hv : atB S' y
                        · rw [hv] at q2
                          have hst : stepC l r S' k = true := by rw [Hstp.out, hre, hwr, d1, hv1, hg, hj, Hyn.out, hv]; simp
                          have hmd := Hmid.out.new hok hk hst Ha.out
                          have Hmd := Lib.hid hmd
                          have f1 : w8.frozen? ⟨w.heap.size, k, none⟩ = false := by simp [World.frozen?, Hblk8.out]
                          have s1 : w8.cell? ⟨w.heap.size, k, none⟩ = some (.bool false) := by rw [blk_cell' Hblk8.out, ← Ha.out]; exact boolsA_get (by omega)
                          clear hst hmd
                          go_wp2
                          go_roundg k
                          case measure => omega
                          case rel => exact ⟨S'.set k true, true, (k : Int) - 1, rfl, rfl, by omega, by omega, by omega, Hmd, Lib.hid (Hb8.out.setCell (p := ⟨w.heap.size, k, none⟩) (Nat.le_refl _) _), Lib.hid (by rw [block_set Hblk8.out, boolsA_set])⟩
                        · rw [hv] at q2
                          have hst : stepC l r S' k = true := by rw [Hstp.out, hre, hwr, d1, hv1, hg, hj, Hyn.out, hv]; simp
                          have hmd := Hmid.out.new hok hk hst Ha.out
                          have Hmd := Lib.hid hmd
                          have f1 : w8.frozen? ⟨w.heap.size, k, none⟩ = false := by simp [World.frozen?, Hblk8.out]
                          have s1 : w8.cell? ⟨w.heap.size, k, none⟩ = some (.bool false) := by rw [blk_cell' Hblk8.out, ← Ha.out]; exact boolsA_get (by omega)
                          clear hst hmd
                          go_wp2
                          go_roundg k
                          case measure => omega
                          case rel => exact ⟨S'.set k true, true, (k : Int) - 1, rfl, rfl, by omega, by omega, by omega, Hmd, Lib.hid (Hb8.out.setCell (p := ⟨w.heap.size, k, none⟩) (Nat.le_refl _) _), Lib.hid (by rw [block_set Hblk8.out, boolsA_set])⟩
                · have i2 : ¬ (k : Int) + 1 < (l.length : Int) := by omega
                  have d1 : decide (k + 1 < l.length) = false := decide_eq_false hn1
                  go_wp2_with fail
                  refine Fields_calls _ _ _ (fun w7 hb7 => ?_)
                  have Hb7 := Lib.hid (Hb6.out.trans (hb7.mono hz6))
                  have Hblk7 := Lib.hid ((hb7.block _ lG6).trans Hblk6.out)
                  clear hb7 c0 c1 c2 c3 c4 lb
                  obtain ⟨lb, c0, c1, c2, c3, c4⟩ := Hheld.out w7 Hb7.out
                  have lG7 : w.heap.size < w7.heap.size := blk_lt Hblk7.out
                  have hz7 := Hb7.out.size
                  go_wp2_with fail
                  refine Has_any _ _ (by omega) (by omega) hfs _ _ ?_
                  rw [Hhas.out]
                  cases hj : jumpsM m
                  · have hst : stepC l r S' k = false := by rw [Hstp.out, hre, hwr, d1, hj]; simp
                    have Hmd := Lib.hid (Hmid.out.had (fun e => by rw [hst] at e; cases e))
                    clear hst
                    go_wp2
                    go_roundg k
                    case measure => omega
                    case rel => exact ⟨S', b, (k : Int) - 1, rfl, rfl, by omega, by omega, by omega, Hmd, Hb7, Hblk7⟩
                  · obtain ⟨y, hy⟩ : ∃ y : Nat, m.n = (y : Int) := ⟨m.n.toNat, by have := Hjn.out hj; omega⟩
                    have hyl : y < l.length := by have := Hjn.out hj; omega
                    rw [hy] at c4
                    have y0 : (0 : Int) ≤ (y : Int) := by omega
                    have y1 : (y : Int) < (l.length : Int) := by omega
                    have q2 : w7.cell? ⟨w.heap.size, y, none⟩ = some (.bool (atB S' y)) := by rw [blk_cell' Hblk7.out]; exact boolsA_get (by omega)
                    have hyn : atB S' m.n.toNat = atB S' y := by rw [hy, Int.toNat_natCast]
                    have Hyn := Lib.hid hyn
                    clear hy hyn
                    cases hv : atB S' y
                    · rw [hv] at q2
                      have hst : stepC l r S' k = false := by rw [Hstp.out, hre, hwr, d1, hj, Hyn.out, hv]; simp
                      have Hmd := Lib.hid (Hmid.out.had (fun e => by rw [hst] at e; cases e))
                      clear hst
                      go_wp2
                      go_roundg k
                      case measure => omega
                      case rel => exact ⟨S', b, (k : Int) - 1, rfl, rfl, by omega, by omega, by omega, Hmd, Hb7, Hblk7⟩
                    · rw [hv] at q2
                      have hst : stepC l r S' k = true := by rw [Hstp.out, hre, hwr, d1, hj, Hyn.out, hv]; simp
                      have hmd := Hmid.out.new hok hk hst Ha.out
                      have Hmd := Lib.hid hmd
                      have f1 : w7.frozen? ⟨w.heap.size, k, none⟩ = false := by simp [World.frozen?, Hblk7.out]
                      have s1 : w7.cell? ⟨w.heap.size, k, none⟩ = some (.bool false) := by rw [blk_cell' Hblk7.out, ← Ha.out]; exact boolsA_get (by omega)
                      clear hst hmd
                      go_wp2
                      go_roundg k
                      case measure => omega
                      case rel => exact ⟨S'.set k true, true, (k : Int) - 1, rfl, rfl, by omega, by omega, by omega, Hmd, Lib.hid (Hb7.out.setCell (p := ⟨w.heap.size, k, none⟩) (Nat.le_refl _) _), Lib.hid (by rw [block_set Hblk7.out, boolsA_set])⟩
              · have hst : stepC l r S' k = false := by rw [Hstp.out, hre, hwr]; simp
                have Hmd := Lib.hid (Hmid.out.had (fun e => by rw [hst] at e; cases e))
                clear hst
                go_wp2
                go_roundg k
                case measure => omega
                case rel => exact ⟨S', b, (k : Int) - 1, rfl, rfl, by omega, by omega, by omega, Hmd, Hb6, Hblk6⟩
            · have hst : stepC l r S' k = true := by rw [Hstp.out, hre]; simp
              have hmd := Hmid.out.new hok hk hst Ha.out
              have Hmd := Lib.hid hmd
              have f1 : w5.frozen? ⟨w.heap.size, k, none⟩ = false := by simp [World.frozen?, Hblk5.out]
              have s1 : w5.cell? ⟨w.heap.size, k, none⟩ = some (.bool false) := by rw [blk_cell' Hblk5.out, ← Ha.out]; exact boolsA_get (by omega)
              clear hst hmd
              go_wp2
              go_roundg k
              case measure => omega
              case rel => exact ⟨S'.set k true, true, (k : Int) - 1, rfl, rfl, by omega, by omega, by omega, Hmd, Lib.hid (Hb5.out.setCell (p := ⟨w.heap.size, k, none⟩) (Nat.le_refl _) _), Lib.hid (by rw [block_set Hblk5.out, boolsA_set])⟩
          · rw [ha] at q1
            have Ha := Lib.hid ha
            clear ha
            go_wp2
            go_roundg k
            case measure => omega
            case rel => exact ⟨S', b, (k : Int) - 1, rfl, rfl, by omega, by omega, by omega, Lib.hid (Hmid.out.had (fun _ => Ha.out)), Hb2, Hblk2⟩
        · obtain rfl : ii = -1 := by omega
          go_wp2
          go_roundg (leftR S' + b.toNat)
          case measure =>
            cases b
            · rw [(Hmid.out.2.1 rfl).1]; simp
            · have := Hmid.out.2.2 rfl; simp; omega
          case rel => exact ⟨S', b, rfl, rfl, Lib.hid Hmid.out.1, Lib.hid (fun hb i hi => (Hmid.out.2.1 hb).2 i (by omega) hi), Hb2, Hblk2⟩
end Go.Proofs.YtemakpjickbmnaaDoor
