/- The walks, part 26. -/
import Derived.Test.YtdanebboiekieaaGreatDoorP25
set_option linter.unusedSimpArgs false
set_option linter.unusedVariables false
set_option maxRecDepth 100000
set_option maxHeartbeats 16000000
namespace Go.Proofs.YtdanebboiekieaaGreatDoor
open Go.RowKit
def lenB (f : UFun) (i : Nat) : Nat := ((f.blocks[i]?).map (·.list.length)).getD 0
theorem q7g {f : UFun} {i : Nat} (h : i < f.blocks.length) : lenB f i = f.blocks[i].list.length := by
 unfold lenB
 rw [List.getElem?_eq_getElem h]
 rfl
def poss (f : UFun) : List (Nat × Nat) := (List.range f.blocks.length).flatMap fun i => (List.range (lenB f i + 1)).map fun k => (i, k)
theorem mem_poss {f : UFun} {p : Nat × Nat} : p ∈ poss f ↔ p.1 < f.blocks.length ∧ p.2 ≤ lenB f p.1 := by
 unfold poss
 rw [List.mem_flatMap]
 constructor
 ·rintro ⟨i, hi, hp⟩
  obtain ⟨k, hk, rfl⟩ := List.mem_map.1 hp
  rw [List.mem_range] at hi hk
  exact ⟨hi, by show k ≤ lenB f i; omega⟩
 ·rintro ⟨h1, h2⟩
  exact ⟨p.1, List.mem_range.2 h1, List.mem_map.2 ⟨p.2, List.mem_range.2 (by omega), rfl⟩⟩
def putT (V : Nat × Nat -> Bool) (p : Nat × Nat) (x : Bool) : Nat × Nat -> Bool := fun q => if q = p then x else V q
def cntF (f : UFun) (V : Nat × Nat -> Bool) : Nat := ((poss f).filter fun p => !V p).length
theorem qbc {α : Type} {l : List α} {p q : α -> Bool} (h : ∀ x ∈ l, q x = true -> p x = true) : (l.filter q).length ≤ (l.filter p).length := by
 induction l with
 | nil => exact Nat.le_refl _
 | cons x l ih =>
   have ih := ih (fun y hy => h y (.tail _ hy))
   have hx := h x (.head _)
   cases hq : q x
   ·cases hp : p x
    ·rw [List.filter_cons_of_neg (by simp [hq]), List.filter_cons_of_neg (by simp [hp])]
     exact ih
    ·rw [List.filter_cons_of_neg (by simp [hq]), List.filter_cons_of_pos hp, List.length_cons]
     omega
   ·rw [List.filter_cons_of_pos hq, List.filter_cons_of_pos (hx hq), List.length_cons, List.length_cons]
    omega
theorem q9x {α : Type} {l : List α} {p q : α -> Bool} (h : ∀ x ∈ l, q x = true -> p x = true) {z : α} (hz : z ∈ l) (h1 : p z = true) (h2 : q z = false) : (l.filter q).length < (l.filter p).length := by
 induction l with
 | nil => cases hz
 | cons x l ih =>
   have hx := h x (.head _)
   have hl := fun y (hy : y ∈ l) => h y (.tail _ hy)
   rcases List.mem_cons.1 hz with rfl | hz
   ·rw [List.filter_cons_of_neg (by simp [h2]), List.filter_cons_of_pos h1, List.length_cons]
    have := qbc hl
    omega
   ·have ih := ih hl hz
    cases hq : q x
    ·cases hp : p x
     ·rw [List.filter_cons_of_neg (by simp [hq]), List.filter_cons_of_neg (by simp [hp])]
      exact ih
     ·rw [List.filter_cons_of_neg (by simp [hq]), List.filter_cons_of_pos hp, List.length_cons]
      omega
    ·rw [List.filter_cons_of_pos hq, List.filter_cons_of_pos (hx hq), List.length_cons, List.length_cons]
     omega
structure PassI (f : UFun) (r : Nat) (V0 V : Nat × Nat -> Bool) (ch : Bool) (done : Nat × Nat -> Prop) : Prop where
 good : GoodL (stepP f r) (fun p => Lv f r p.1 p.2) V
 up : ∀ p, V0 p = true -> V p = true
 same : ch = false -> V = V0 ∧ ∀ p, done p -> stepP f r V p = true -> V p = true
 more : ch = true -> ∃ p ∈ poss f, V0 p = false ∧ V p = true
theorem PassI.start {f : UFun} {r : Nat} {V : Nat × Nat -> Bool} (h : GoodL (stepP f r) (fun p => Lv f r p.1 p.2) V) : PassI f r V V false (fun _ => False) :=
 ⟨h, fun _ h => h, fun _ => ⟨rfl, fun _ h => h.elim⟩, fun h => (by cases h)⟩
theorem PassI.weak {f : UFun} {r : Nat} {V0 V : Nat × Nat -> Bool} {ch : Bool} {d e : Nat × Nat -> Prop} (h : PassI f r V0 V ch d) (he : ∀ p, e p -> d p ∨ stepP f r V p = false) : PassI f r V0 V ch e :=
 ⟨h.good, h.up, fun hc => ⟨(h.same hc).1, fun p hp hs => by
  rcases he p hp with h1 | h1
  ·exact (h.same hc).2 p h1 hs
  ·rw [h1] at hs; cases hs⟩, h.more⟩
theorem qgj {V : Nat × Nat -> Bool} {p : Nat × Nat} : putT V p (V p) = V := by
 funext q
 unfold putT
 by_cases h : q = p
 ·rw [if_pos h, h]
 ·rw [if_neg h]
theorem PassI.step {f : UFun} {r : Nat} {V0 V : Nat × Nat -> Bool} {ch : Bool} {done : Nat × Nat -> Prop} (h : PassI f r V0 V ch done) {p : Nat × Nat} (hp : p ∈ poss f) {x : Bool} (hx : x = stepP f r V p) :
 PassI f r V0 (putT V p x) (ch || (x && !V p)) (fun q => done q ∨ q = p) := by
 by_cases hc : x = true ∧ V p = false
 ·obtain ⟨h1, h2⟩ := hc
  subst h1
  rw [h2, Bool.not_false, Bool.and_self, Bool.or_true]
  have hg : GoodL (stepP f r) (fun p => Lv f r p.1 p.2) (putT V p true) := h.good.step (qeg f r) (i := p) (by unfold putT; rw [if_pos rfl]; exact hx) (fun q hq => by unfold putT; rw [if_neg hq])
  refine ⟨hg, fun q hq => ?_, fun h => (by cases h), fun _ => ⟨p, hp, ?_, by unfold putT; rw [if_pos rfl]⟩⟩
  ·unfold putT
   split
   ·rfl
   ·exact h.up q hq
  ·cases h3 : V0 p
   ·rfl
   ·rw [h.up p h3] at h2; cases h2
 ·have hxv : x = V p := by
   cases hx1 : x
   ·cases hv : V p
    ·rfl
    ·have := h.good.grow p hv
     rw [<- hx, hx1] at this
     cases this
   ·cases hv : V p
    ·exact absurd ⟨hx1, hv⟩ hc
    ·rfl
  have hch : (ch || (x && !V p)) = ch := by
   rw [hxv]
   cases V p <;> simp
  rw [hch]
  have hsv : putT V p x = V := by rw [hxv, qgj]
  rw [hsv]
  refine ⟨h.good, h.up, fun hc => ⟨(h.same hc).1, fun q hq hs => ?_⟩, h.more⟩
  rcases hq with hq | hq
  ·exact (h.same hc).2 q hq hs
  ·rw [hq] at hs ⊢
   rw [<- hxv, hx]
   exact hs
theorem qgu {f : UFun} {r : Nat} {V : Nat × Nat -> Bool} {p : Nat × Nat} (h : ¬ p ∈ poss f) : stepP f r V p = false := by
 rw [mem_poss] at h
 unfold stepP
 cases hb : f.blocks[p.1]? with
 | none => rfl
 | some b =>
   obtain ⟨h1, h2⟩ := List.getElem?_eq_some_iff.1 hb
   have hl : lenB f p.1 = b.list.length := by rw [q7g h1, h2]
   dsimp only
   rw [List.getElem?_eq_none (by omega), if_neg (by omega)]
theorem PassI.closed {f : UFun} {r : Nat} {V0 V : Nat × Nat -> Bool} {ch : Bool} (h : PassI f r V0 V ch (fun p => p ∈ poss f)) : (ch = false -> ∀ p, stepP f r V p = true -> V p = true) ∧ cntF f V + (if ch = true then 1 else 0) < cntF f V0 + 1 := by
 constructor
 ·intro hc p hs
  by_cases hp : p ∈ poss f
  ·exact (h.same hc).2 p hp hs
  ·rw [qgu hp] at hs; cases hs
 ·cases ch with
  | false =>
    rw [(h.same rfl).1]
    simp
  | true =>
    obtain ⟨p, hp, h1, h2⟩ := h.more rfl
    rw [if_pos rfl]
    have := q9x (l := poss f) (p := fun p => !V0 p) (q := fun p => !V p) (fun x _ hx => by
     have hx' : V x = false := by simpa using hx
     cases h3 : V0 x
     ·rfl
     ·rw [h.up x h3] at hx'; cases hx') hp (by simp [h1]) (by simp [h2])
    unfold cntF
    omega
structure LTab (f : UFun) (g : Nat -> Nat) (b0 m : Nat) (V : Nat × Nat -> Bool) (W : World) : Prop where
 row : ∀ i, i < m -> ∃ A, W.heap[g i]? = some (.cells A 4 (0, 0)) ∧ ∀ k, k ≤ lenB f i -> A[k]? = some (.bool (V (i, k)))
 inj : ∀ i j, i < m -> j < m -> g i = g j -> i = j
 low : ∀ i, i < m -> b0 ≤ g i
def slV (f : UFun) (g : Nat -> Nat) (m : Nat) : List Value := (List.range m).map fun i => .slice (some ⟨g i, 0, none⟩) (lenB f i + 1) (lenB f i + 1)
theorem q91 (f : UFun) (g : Nat -> Nat) (m : Nat) : (slV f g m).length = m := by simp [slV]
theorem qjt {f : UFun} {g : Nat -> Nat} {m i : Nat} (h : i < m) : (slV f g m)[i]? = some (.slice (some ⟨g i, 0, none⟩) (lenB f i + 1) (lenB f i + 1)) := by
 unfold slV
 rw [List.getElem?_map, List.getElem?_range h]
 rfl
theorem qif {f : UFun} {g h : Nat -> Nat} {m : Nat} (hg : ∀ i, i < m -> h i = g i) : slV f h (m + 1) = slV f g m ++ [.slice (some ⟨h m, 0, none⟩) (lenB f m + 1) (lenB f m + 1)] := by
 unfold slV
 rw [List.range_succ, List.map_append]
 congr 1
 apply List.map_congr_left
 intro i hi
 rw [hg i (List.mem_range.1 hi)]
theorem LTab.none_ {f : UFun} {g : Nat -> Nat} {b0 : Nat} {V : Nat × Nat -> Bool} {W : World} : LTab f g b0 0 V W :=
 ⟨fun i h => absurd h (Nat.not_lt_zero i), fun i j h => absurd h (Nat.not_lt_zero i), fun i h => absurd h (Nat.not_lt_zero i)⟩
theorem LTab.keep {f : UFun} {g : Nat -> Nat} {b0 m : Nat} {V : Nat × Nat -> Bool} {W W' : World} (h : LTab f g b0 m V W) (hk : ∀ i A, i < m -> W.heap[g i]? = some (.cells A 4 (0, 0)) -> W'.heap[g i]? = some (.cells A 4 (0, 0))) : LTab f g b0 m V W' :=
 ⟨fun i hi => by
  obtain ⟨A, h1, h2⟩ := h.row i hi
  exact ⟨A, hk i A hi h1, h2⟩, h.inj, h.low⟩
theorem LTab.below {f : UFun} {g : Nat -> Nat} {b0 m : Nat} {V : Nat × Nat -> Bool} {W W' : World} (h : LTab f g b0 m V W) (hb : Below W.heap.size W W') : LTab f g b0 m V W' := h.keep fun i A _ h1 => (hb.block _ (qc h1)).trans h1
theorem LTab.lt {f : UFun} {g : Nat -> Nat} {b0 m : Nat} {V : Nat × Nat -> Bool} {W : World} (h : LTab f g b0 m V W) {i : Nat} (hi : i < m) : g i < W.heap.size := by
 obtain ⟨A, h1, _⟩ := h.row i hi
 exact qc h1
theorem LTab.cell {f : UFun} {g : Nat -> Nat} {b0 m : Nat} {V : Nat × Nat -> Bool} {W : World} (h : LTab f g b0 m V W) {i k : Nat} (hi : i < m) (hk : k ≤ lenB f i) : W.cell? ⟨g i, k, none⟩ = some (.bool (V (i, k))) := by
 obtain ⟨A, h1, h2⟩ := h.row i hi
 rw [qe h1]
 exact h2 k hk
theorem LTab.frozen {f : UFun} {g : Nat -> Nat} {b0 m : Nat} {V : Nat × Nat -> Bool} {W : World} (h : LTab f g b0 m V W) {i : Nat} (k : Nat) (hi : i < m) : W.frozen? ⟨g i, k, none⟩ = false := by
 obtain ⟨A, h1, h2⟩ := h.row i hi
 simp [World.frozen?, h1]
theorem LTab.set {f : UFun} {g : Nat -> Nat} {b0 m : Nat} {V : Nat × Nat -> Bool} {W : World} (h : LTab f g b0 m V W) {i k : Nat} (hi : i < m) (hk : k ≤ lenB f i) (x : Bool) : LTab f g b0 m (putT V (i, k) x) (W.setCell ⟨g i, k, none⟩ (.bool x)) := by
 refine ⟨fun j hj => ?_, h.inj, h.low⟩
 obtain ⟨A, h1, h2⟩ := h.row j hj
 by_cases e : j = i
 ·subst e
  refine ⟨A.setIfInBounds k (.bool x), by rw [q0p h1], fun l hl => ?_⟩
  have h3 := h2 l hl
  have hlA : l < A.size := (Array.getElem?_eq_some_iff.1 h3).1
  rw [Array.getElem?_setIfInBounds]
  unfold putT
  by_cases e : k = l
  ·subst e
   rw [if_pos rfl, if_pos hlA, if_pos rfl]
  ·rw [if_neg e, if_neg (fun e2 => e (congrArg Prod.snd e2).symm)]
   exact h3
 ·refine ⟨A, ?_, fun l hl => ?_⟩
  ·rw [Below.heap_setCell _ _ _ _ (fun e2 => e (h.inj j i hj hi e2))]
   exact h1
  ·unfold putT
   rw [if_neg (fun e2 => e (congrArg Prod.fst e2))]
   exact h2 l hl
def q08 (f : UFun) (L : Nat -> Nat -> Bool) : List (List Bool) := (List.range f.blocks.length).map fun i => (List.range (lenB f i + 1)).map (L i)
theorem qde : (Tryz.prog.info? 4).map (fun i => (i.zero, i.size, i.bytes)) = some (some (.bool false), 1, 1) := by kernel_rfl
theorem qbl (W : World) (n : Nat) (hn : n ≤ 5000) : (Instr.makeSlice 77 (.int .i64 (n : Int)) (.int .i64 (n : Int))).run Tryz.prog W = .ok (.slice (some ⟨W.heap.size, 0, none⟩) n n) (W.alloc (.cells (Array.replicate n (Value.bool false)) 4)) := by
 obtain ⟨iB, hi, z0, z1, z2⟩ := info_parts qde
 have h := run_make (P := Tryz.prog) W 77 4 iB _ Tryz.underlying77 hi z0 .i64 .i64 (n : Int) (n : Int) (by omega) (Int.le_refl _) (by rw [z2]; omega) (by omega)
 rw [z1] at h
 simp only [Int.toNat_natCast, Nat.mul_one] at h
 have e : madeCells (Value.bool false).cells n = Array.replicate n (Value.bool false) := by
  unfold madeCells
  apply Array.ext
  ·simp
  ·intro i h1 h2
   simp [Value.cells, Nat.mod_one]
 rw [e] at h
 exact h
theorem qct {w : World} {base : Nat} {e : TypeId} {size : Nat} {v : Value} {n : Nat} {xs : List Value} (h : w.ownsRow base e size v n xs) {b : Nat} {A : Array Value} {T : TypeId} {fr : Nat × Nat} (hb : w.heap[b]? = some (.cells A T fr)) (hT : T ≠ e) : some b ≠ v.ownBlock := by
 intro he
 rcases h.2 with ⟨rfl, _⟩ | ⟨g, cap, cur, rfl, _, hh, _⟩
 ·cases he
 ·have e1 : b = g := Option.some.inj he
  subst e1
  rw [hb] at hh
  injection hh with hh
  injection hh with _ h2
  exact hT h2
theorem qbf : (Tryz.prog.info? 77).map (fun i => (i.zero, i.size, i.bytes)) = some (some (.slice none 0 0), 1, 24) := by kernel_rfl
theorem LTab.push {f : UFun} {g : Nat -> Nat} {b0 m : Nat} {W W' : World} (h : LTab f g b0 m (fun _ => false) W) {G : Nat} (hG : W'.heap[G]? = some (.cells (Array.replicate (lenB f m + 1) (Value.bool false)) 4 (0, 0))) (hb : b0 ≤ G) (hn : ∀ i, i < m -> g i ≠ G)
 (hk : ∀ i A, i < m -> W.heap[g i]? = some (.cells A 4 (0, 0)) -> W'.heap[g i]? = some (.cells A 4 (0, 0))) : LTab f (fun j => if j = m then G else g j) b0 (m + 1) (fun _ => false) W' := by
 refine ⟨fun i hi => ?_, fun i j hi hj e => ?_, fun i hi => ?_⟩
 ·by_cases e : i = m
  ·subst e
   refine ⟨_, by rw [if_pos rfl]; exact hG, fun k hk => ?_⟩
   rw [Array.getElem?_replicate, if_pos (by omega)]
  ·obtain ⟨A, h1, h2⟩ := h.row i (by omega)
   exact ⟨A, by rw [if_neg e]; exact hk i A (by omega) h1, h2⟩
 ·by_cases e1 : i = m
  ·by_cases e2 : j = m
   ·omega
   ·rw [if_pos e1, if_neg e2] at e
    exact absurd e.symm (hn j (by omega))
  ·by_cases e2 : j = m
   ·rw [if_neg e1, if_pos e2] at e
    exact absurd e (hn i (by omega))
   ·rw [if_neg e1, if_neg e2] at e
    exact h.inj i j (by omega) (by omega) e
 ·show b0 ≤ if i = m then G else g i
  split
  ·exact hb
  ·exact h.low i (by omega)
theorem LTab.rowSL {f : UFun} {g : Nat -> Nat} {b0 m B : Nat} {V : Nat × Nat -> Bool} {W : World} (h : LTab f g b0 m V W) {i : Nat} (hi : i < m) (hB : W.heap.size ≤ B) (hl : lenB f i ≤ 300) : rpBool.SL W B ((List.range (lenB f i + 1)).map fun k => V (i, k)) (.slice (some ⟨g i, 0, none⟩) (lenB f i + 1) (lenB f i + 1)) := by
 have e : ((List.range (lenB f i + 1)).map fun k => V (i, k)).length = lenB f i + 1 := by simp
 refine ⟨some ⟨g i, 0, none⟩, lenB f i + 1, by rw [e], by rw [e]; unfold maxLen; omega, by rw [e]; exact Nat.le_refl _, fun _ => ⟨g i, 0, rfl, Nat.lt_of_lt_of_le (h.lt hi) hB, fun k x hk => ⟨[.bool x], rfl, fun j u hj => ?_⟩⟩⟩
 match j, hj with
 | 0, hj =>
   injection hj with hj
   subst hj
   have hlt := (List.getElem?_eq_some_iff.1 hk).1
   rw [e] at hlt
   rw [List.getElem?_map, List.getElem?_range hlt] at hk
   injection hk with hk
   have hk : V (i, k) = x := hk
   show W.cell? ⟨g i, 0 + k * 1 + 0, none⟩ = _
   rw [show 0 + k * 1 + 0 = k from by omega, h.cell hi (by omega), hk]
 | j + 1, hj => simp at hj
theorem LTab.SL {f : UFun} {g : Nat -> Nat} {b0 B gT cT : Nat} {V : Nat × Nat -> Bool} {W : World} (h : LTab f g b0 f.blocks.length V W) (hT : ∀ j, j < f.blocks.length -> W.cell? ⟨gT, j, none⟩ = some (.slice (some ⟨g j, 0, none⟩) (lenB f j + 1) (lenB f j + 1))) (hg : gT < B) (hB : W.heap.size ≤ B) (hl : ∀ i, lenB f i ≤ 300) (hn : f.blocks.length ≤ 40) (hc : f.blocks.length ≤ cT) :
 rpBool.slice.SL W B (q08 f fun i k => V (i, k)) (.slice (some ⟨gT, 0, none⟩) f.blocks.length cT) := by
 have e : (q08 f fun i k => V (i, k)).length = f.blocks.length := by unfold q08; simp
 refine ⟨some ⟨gT, 0, none⟩, cT, by rw [e], by rw [e]; unfold maxLen; omega, by rw [e]; exact hc, fun _ => ⟨gT, 0, rfl, hg, fun k x hk => ?_⟩⟩
 have hlt := (List.getElem?_eq_some_iff.1 hk).1
 rw [e] at hlt
 unfold q08 at hk
 rw [List.getElem?_map, List.getElem?_range hlt] at hk
 injection hk with hk
 subst hk
 refine ⟨[_], ⟨_, rfl, h.rowSL hlt hB (hl k)⟩, fun j u hj => ?_⟩
 match j, hj with
 | 0, hj =>
   injection hj with hj
   subst hj
   show W.cell? ⟨gT, 0 + k * 1 + 0, none⟩ = _
   rw [show 0 + k * 1 + 0 = k from by omega, hT k hlt]
 | j + 1, hj => simp at hj
theorem LTab.SLF {f : UFun} {g : Nat -> Nat} {b0 b gT cT : Nat} {V : Nat × Nat -> Bool} {W : World} (h : LTab f g b0 f.blocks.length V W) (hT : ∀ j, j < f.blocks.length -> W.cell? ⟨gT, j, none⟩ = some (.slice (some ⟨g j, 0, none⟩) (lenB f j + 1) (lenB f j + 1))) (hg : gT < W.heap.size) (hb : b ≤ b0) (hbT : b ≤ gT) (hl : ∀ i, lenB f i ≤ 300) (hn : f.blocks.length ≤ 40) (hc : f.blocks.length ≤ cT) :
 rpBool.slice.SLF W b W.heap.size (q08 f fun i k => V (i, k)) (.slice (some ⟨gT, 0, none⟩) f.blocks.length cT) := by
 have h1 : LTab f g b0 f.blocks.length V (only W fun k => decide (b ≤ k)) := h.keep fun i A hi hA => (q2q _ _ _ (decide_eq_true (Nat.le_trans hb (h.low i hi)))).trans hA
 exact h1.SL (fun j hj => (q1r _ _ _ (decide_eq_true hbT)).trans (hT j hj)) hg (by rw [q2o]; exact Nat.le_refl _) hl hn hc
theorem q41 (L : Nat -> Nat -> Int -> Bool) (f : UFun) (r : Nat) (A : Option Addr) (c : Nat) (hlen : ∀ b ∈ f.blocks, b.list.length ≤ 300) (hnb : 1 ≤ f.blocks.length ∧ f.blocks.length ≤ 40) (hto : ∀ b ∈ f.blocks, ∀ t ∈ b.end_.to, 1 ≤ t ∧ t < (f.blocks.length : Int)) (hL : ∀ i k a, L i k a = true ↔ LvI f a i k) (w : World) (h : rpBlk.SL w w.heap.size f.blocks (.slice A f.blocks.length c)) (R : Ending -> World -> Prop)
 (hR : ∀ w' v, Below w.heap.size w w' -> rpBool.slice.SLF w' w.heap.size w'.heap.size (q08 f (fun i k => L i k (r : Int))) v -> R (.returned v) w') :
 Calls Tryz.prog 32 #[.agg #[.string f.name, .int .i64 f.params, .int .i64 f.regs, .slice A f.blocks.length c], .int .i64 (r : Int)] w R := by
 obtain ⟨iB, hiB, zB0, zB1, zB2⟩ := info_parts qbf
 obtain ⟨HR, Hs, Hlen, Hto, HL⟩ := lh5 hR h hlen hto hL
 obtain ⟨hnb1, hnb2⟩ := hnb
 clear hR h hlen hto hL
 go_enter Tryz.func32, Tryz.ntmps32
 go_upto_region 1 with fail
 obtain ⟨W2, hW2, hb2, hU2⟩ := box1 w (.cells #[.string f.name, .int .i64 f.params, .int .i64 f.regs, .slice A f.blocks.length c] 56) rfl
 rw [<- hW2]
 obtain ⟨Hb2, HU2⟩ := lh2 hb2 hU2
 have Hs2 := lh (Hs.out.up hb2 hb2.size)
 clear hW2 hb2 hU2 Hs
 have HT0 : Hid (LTab f (fun _ => 0) W2.heap.size 0 (fun _ => false) W2) := lh LTab.none_
 have HO0 : Hid (W2.ownsRow W2.heap.size 77 1 (.slice none 0 0) (slV f (fun _ => 0) 0).length (slV f (fun _ => 0) 0)) := lh (World.ownsRow_nil _ _ _ _)
 go_wp2
 go_loopg [5, 6] f.blocks.length (fun gh s5 s6 wr => ∃ (i : Nat) (g : Nat -> Nat), i ≤ f.blocks.length ∧ gh = f.blocks.length - i ∧ s6 = .int .i64 (i : Int) ∧ Hid (Below W2.heap.size W2 wr) ∧ Hid (LTab f g W2.heap.size i (fun _ => false) wr) ∧ Hid (wr.ownsRow W2.heap.size 77 1 s5 (slV f g i).length (slV f g i)))
 case atStart => exact ⟨0, _, Nat.zero_le _, rfl, rfl, lh (Below.refl _ _), HT0, HO0⟩
 case round =>
  clear HT0 HO0
  obtain ⟨i, g, hi, rfl, rfl, Hb, HT, HO⟩ := hrel
  have hzr := Hb.out.size
  have i1 := nnn i
  have hUr := (Hb.out.block _ (qc HU2.out)).trans HU2.out
  have x3 : wr.cell? ⟨w.heap.size, 3, none⟩ = some (.slice A f.blocks.length c) := cqq hUr
  have lU := qc hUr
  obtain ⟨vA, vc, rfl⟩ := qn HO.out
  by_cases hlt : i < f.blocks.length
  ·have i2 : (i : Int) < (f.blocks.length : Int) := by omega
   have HUr := lh hUr
   obtain ⟨b, off, vp, vl, vt, rfl, hbb, _, hl, _, q0, q1, q2, q3, q4, q5⟩ := Hs2.out.blk_at hlt
   obtain ⟨Al, cl, rfl, hlm, _, _⟩ := hl.cases_
   have p1 := (Hb.out.cell (p := ⟨b, off + i * 6 + 1, none⟩) hbb).trans q1
   have lb : b < wr.heap.size := by omega
   have hll := Hlen.out _ (List.getElem_mem hlt)
   have hle := q7g hlt
   rw [<- hle] at p1 hll
   have hmk := qbl wr (lenB f i + 1) (by omega)
   have e1 : ((lenB f i : Nat) : Int) + 1 = ((lenB f i + 1 : Nat) : Int) := by omega
   have hsl := q91 f g i
   obtain ⟨n1, hn1⟩ := nmm (lenB f i + 1)
   rw [<- hn1] at hmk e1
   obtain ⟨ln, hln⟩ : ∃ ln, ln = (slV f g i).length := ⟨_, rfl⟩
   rw [<- hln] at HO
   rw [<- hln] at hsl
   obtain ⟨Hln, Hn1, Hsl⟩ := lh3 hln hn1 hsl
   obtain ⟨W4, hW4⟩ : ∃ W4, W4 = wr.alloc (.cells (Array.replicate n1 (Value.bool false)) 4) := ⟨_, rfl⟩
   have hs4 : W4.heap.size = wr.heap.size + 1 := by rw [hW4]; simp
   have hb4 : Below wr.heap.size wr W4 := by subst hW4; exact bl0
   have hG4 : W4.heap[wr.heap.size]? = some (.cells (Array.replicate n1 (Value.bool false)) 4 (0, 0)) := by subst hW4; exact heap_alloc_new _ _
   rw [<- hW4] at hmk
   obtain ⟨HG4, Hb4⟩ := lh2 hG4 hb4
   have HO4 := lh (q0e HO.out hb4)
   have Hs4 := lh hs4
   have hz4 : wr.heap.size ≤ W4.heap.size := by omega
   clear hW4 hG4 hb4 hs4 q0 q1 q2 q3 q4 q5 hl hbb hle hln hn1 hsl hUr
   rw [<- Hln.out]
   go_wp2_with (at_builtin; refine wpList_append_own _ rfl _ _ 78 rfl W2.heap.size 77 iB _ 1 24 Tryz.underlying78 hiB zB0 zB1 zB2 rfl (by decide) (.slice vA ln vc) ln (slV f g i) rfl (HO4.out.alloc _) ⟨W4.heap.size, 0, none⟩ 1 1 [.slice (some ⟨wr.heap.size, 0, none⟩) n1 n1] rfl rfl ?_ ?_ ?_ ?_ ?_ ?_)
   any_goals have hsl := Hsl.out
   any_goals first | exact World.news_of_block (cs := #[.slice (some ⟨wr.heap.size, 0, none⟩) n1 n1]) (t := 77) (fr := (0, 0)) (heap_alloc_new W4 _) | (simp [Value.oneCell']; done) | (unfold maxLen; omega) | omega | (simp; done) | (simp; omega)
   intro v' w2 hown2 hgrow _
   have hG2 : w2.heap[wr.heap.size]? = some (.cells (Array.replicate (lenB f i + 1) (Value.bool false)) 4 (0, 0)) := by
    rw [hgrow.block _ (by simp; have := qc HG4.out; omega) (qct HO4.out HG4.out (by decide)), <- Hn1.out]
    exact qh HG4.out _
   have hT2 := HT.out.push (G := wr.heap.size) hG2 hzr (fun j hj e => by have := HT.out.lt hj; omega) (fun j B hj hB => by
    have h4 := (Hb4.out.block _ (HT.out.lt hj)).trans hB
    rw [hgrow.block _ (by simp; have := qc h4; omega) (qct HO4.out h4 (by decide))]
    exact qh h4 _)
   have hown : ∀ j, (Value.slice vA ln vc).ownBlock = some j -> W2.heap.size ≤ j := fun j e => (HO.out.lt j e).1
   have hb5 : Below W2.heap.size W2 w2 := ((Hb.out.trans (Hb4.out.mono hzr)).alloc (by omega) (Obj.cells #[.slice (some ⟨wr.heap.size, 0, none⟩) n1 n1] 77)).grown hgrow (by simp; omega) hown
   have hO2 : w2.ownsRow W2.heap.size 77 1 v' (slV f (fun j => if j = i then wr.heap.size else g j) (i + 1)).length (slV f (fun j => if j = i then wr.heap.size else g j) (i + 1)) := by
    rw [qif (g := g) (fun j hj => if_neg (by omega)), List.length_append, if_pos rfl, <- Hn1.out, q91]
    have e2 : i + 1 = ln + 1 := by rw [Hsl.out]
    show w2.ownsRow _ _ _ _ (i + 1) _
    rw [e2]
    exact hown2
   obtain ⟨HT2, Hb5, HO2⟩ := lh3 hT2 hb5 hO2
   clear hown2 hgrow hG2 hT2 hown hb5 hO2 hsl hmk x3 lU p1 lb
   go_wp2
   go_roundg (f.blocks.length - (i + 1))
   case measure => omega
   case rel => exact ⟨i + 1, _, hlt, rfl, by go_num, Hb5, HT2, HO2⟩
  ·obtain rfl : i = f.blocks.length := by omega
   have i2 : ¬ (f.blocks.length : Int) < (f.blocks.length : Int) := by omega
   have hOr := HO.out
   rw [q91] at hOr
   obtain ⟨gT, cT, hsT, hgT1, hgT2, hgT3, hgT4⟩ := q4i hOr (by omega)
   rw [q91]
   obtain ⟨e1, e3⟩ : vA = some ⟨gT, 0, none⟩ ∧ cT = vc := by injection hsT with e1 e2 e3; exact ⟨e1, e3.symm⟩
   subst e1 e3
   clear hsT
   have hrw : ∀ j A', j < f.blocks.length -> wr.heap[g j]? = some (.cells A' 4 (0, 0)) -> g j ≠ gT := fun j A' hj h1 e => qct hOr h1 (by decide) (by rw [e]; rfl)
   have hcT : ∀ j, j < f.blocks.length -> wr.cell? ⟨gT, j, none⟩ = some (.slice (some ⟨g j, 0, none⟩) (lenB f j + 1) (lenB f j + 1)) := fun j hj => by
    rcases hOr.2 with ⟨h0, _⟩ | ⟨g', cap, cur, h0, _, h2, _, _, _, h6⟩
    ·cases h0
    ·injection h0 with e1 e2 e3
     injection e1 with e1
     injection e1 with e1
     subst e1
     rw [qe h2]
     have h7 : (cur.toList.take (f.blocks.length * 1))[j]? = some (.slice (some ⟨g j, 0, none⟩) (lenB f j + 1) (lenB f j + 1)) := by rw [h6]; exact qjt hj
     rw [List.getElem?_take] at h7
     split at h7
     ·simpa using h7
     ·cases h7
   obtain ⟨wA, hwA⟩ := nmm (wr)
   rw [<- hwA] at Hb HT hgT2 hrw hcT hzr HO ⊢
   have HOA := HO
   clear hwA hOr HO x3 lU hUr
   obtain ⟨X, hX⟩ : ∃ X : Nat -> Prop, X = fun j => ∃ i, i < f.blocks.length ∧ j = g i := ⟨_, rfl⟩
   have hXn : ∀ j, X j -> W2.heap.size ≤ j := fun j hj => by
    rw [hX] at hj
    obtain ⟨i, hi, rfl⟩ := hj
    exact HT.out.low i hi
   have hXT : ¬ X gT := fun hj => by
    rw [hX] at hj
    obtain ⟨i, hi, e⟩ := hj
    obtain ⟨A', h1, _⟩ := HT.out.row i hi
    exact hrw i A' hi h1 e.symm
   have HXi : Hid (∀ i, i < f.blocks.length -> X (g i)) := lh fun i hi => by rw [hX]; exact ⟨i, hi, rfl⟩
   have HKB : Hid (∀ W, Grew X wA W -> Below W2.heap.size W2 W) := lh fun W hG => Hb.out.trans (hG.below (fun j hj e => by have := hXn j e; omega) hzr)
   have HKU : Hid (∀ W, Grew X wA W -> W.heap[w.heap.size]? = some (.cells #[.string f.name, .int .i64 f.params, .int .i64 f.regs, .slice A f.blocks.length c] 56 (0, 0))) := lh fun W hG => ((HKB.out W hG).block _ (qc HU2.out)).trans HU2.out
   have HKT : Hid (∀ W, Grew X wA W -> ∀ j, j < f.blocks.length -> W.cell? ⟨gT, j, none⟩ = some (.slice (some ⟨g j, 0, none⟩) (lenB f j + 1) (lenB f j + 1))) := lh fun W hG j hj => (World.cell?_of_block (hG.block gT hgT2 hXT)).trans (hcT j hj)
   have HKS : Hid (∀ W, Grew X wA W -> rpBlk.SL W W2.heap.size f.blocks (.slice A f.blocks.length c)) := lh fun W hG => Hs2.out.up (HKB.out W hG) (Nat.le_refl _)
   have hxlt : ∀ j, X j -> j < wA.heap.size := fun j hj => by
    rw [hX] at hj
    obtain ⟨i, hi, rfl⟩ := hj
    exact HT.out.lt hi
   obtain ⟨Hxlt, HXn⟩ := lh2 hxlt hXn
   have hUA := HKU.out _ (Grew.refl _ _)
   have x3 : wA.cell? ⟨w.heap.size, 3, none⟩ = some (.slice A f.blocks.length c) := cqq hUA
   have lU := qc hUA
   have hG0 : Hid (GoodL (stepP f r) (fun p => Lv f r p.1 p.2) (fun _ => false)) := lh (GoodL.first fun _ => rfl)
   have hC0 : Hid (true = false -> ∀ p, stepP f r (fun _ => false) p = true -> (fun _ : Nat × Nat => false) p = true) := lh fun h => by cases h
   have hGr0 : Hid (Grew X wA wA) := lh (Grew.refl _ _)
   obtain ⟨nb, hnb⟩ := nmm (f.blocks.length)
   have Hnb := lh hnb
   clear hrw hcT hXn hX hXT hUA hxlt
   go_wp2
   clear x3 lU
   go_loopg [7] (cntF f (fun _ => false) + 1) (fun gh s7 wr => ∃ (V : Nat × Nat -> Bool) (ch : Bool), gh = cntF f V + (if ch = true then 1 else 0) ∧ s7 = .bool ch ∧ Hid (GoodL (stepP f r) (fun p => Lv f r p.1 p.2) V) ∧ Hid (ch = false -> ∀ p, stepP f r V p = true -> V p = true) ∧ Hid (LTab f g W2.heap.size f.blocks.length V wr) ∧ Hid (Grew X wA wr))
   case atStart => exact ⟨fun _ => false, true, rfl, rfl, hG0, hC0, HT, hGr0⟩
   case round =>
    clear hG0 hC0 HT hGr0
    obtain ⟨V, ch, hg, rfl, HGd, HCl, HT, HG⟩ := hrel
    have Hgh := lh hg
    clear hg
    cases ch
    ·have hsf : Hid (∀ W, Below wr.heap.size wr W -> R (.returned (.slice (some ⟨gT, 0, none⟩) f.blocks.length cT)) W) := lh fun W hW => by
      have hGW := HG.out.on hW
      have hTW := HT.out.below hW
      have hLV : (fun i k => V (i, k)) = fun i k => L i k (r : Int) := by
       funext i k
       rw [Bool.eq_iff_iff, HL.out]
       have h1 := HGd.out.done (qeg f r) (HCl.out rfl) (i, k)
       constructor
       ·exact fun h2 => ⟨r, rfl, h1.1 h2⟩
       ·rintro ⟨r', e, h2⟩
        have e : r = r' := by omega
        subst e
        exact h1.2 h2
      have h2 := hTW.SLF (gT := gT) (cT := cT) (b := w.heap.size) (HKT.out W hGW) (Nat.lt_of_lt_of_le hgT2 hGW.size) Hb2.out.size (Nat.le_trans Hb2.out.size hgT1) (fun i => by
       unfold lenB
       cases hb : f.blocks[i]? with
       | none => simp
       | some b => exact Hlen.out b (List.mem_of_getElem? hb)) hnb2 hgT3
      rw [hLV] at h2
      exact HR.out W _ (Hb2.out.trans ((HKB.out W hGW).mono Hb2.out.size)) h2
     clear HGd HCl HT
     go_wp2
     first | exact hsf.out _ (by exact bl0) | exact hsf.out _ (Below.refl _ _)
    ·have hUr := HKU.out _ HG.out
     have x3 : wr.cell? ⟨w.heap.size, 3, none⟩ = some (.slice A f.blocks.length c) := cqq hUr
     have lU := qc hUr
     have HP0 : Hid (PassI f r V V false (fun p => p ∈ poss f ∧ f.blocks.length ≤ p.1)) := lh ((PassI.start HGd.out).weak fun p hp => absurd (mem_poss.1 hp.1).1 (by omega))
     clear HGd HCl hUr
     go_wp2
     clear x3 lU
     go_loopg [7, 8] f.blocks.length (fun gh s7 s8 wr => ∃ (j : Nat) (V1 : Nat × Nat -> Bool) (ch1 : Bool), j ≤ f.blocks.length ∧ gh = j ∧ s7 = .bool ch1 ∧ s8 = .int .i64 ((j : Int) - 1) ∧ Hid (PassI f r V V1 ch1 (fun p => p ∈ poss f ∧ j ≤ p.1)) ∧ Hid (LTab f g W2.heap.size f.blocks.length V1 wr) ∧ Hid (Grew X wA wr))
     case atStart => exact ⟨f.blocks.length, V, false, Nat.le_refl _, rfl, rfl, by go_num, HP0, HT, HG⟩
     case round =>
      clear HP0 HT HG
      obtain ⟨j, V1, ch1, hj, hg3, rfl, rfl, HP, HT, HG⟩ := hrel
      have Hg3 := lh hg3
      clear hg3
      cases j with
      | zero =>
        have e1 : (((0 : Nat) : Int) - 1) = -1 := rfl
        have hcl := PassI.closed (HP.out.weak (e := fun p => p ∈ poss f) fun p hp => .inl ⟨hp, Nat.zero_le _⟩)
        have Hcl := lh hcl
        have HGd := lh HP.out.good
        clear hcl HP
        rw [e1]
        go_wp2
        go_roundg (cntF f V1 + (if ch1 = true then 1 else 0))
        case measure => have h1 := Hcl.out.2; have h2 := Hgh.out; simp only [if_true] at h2; omega
        case rel => exact ⟨V1, ch1, rfl, rfl, HGd, lh Hcl.out.1, HT, HG⟩
      | succ i =>
        have hlt : i < f.blocks.length := by omega
        have e1 : (((i + 1 : Nat) : Int) - 1) = (i : Int) := by omega
        rw [e1]
        have i0 := nnn i
        have i1 : (i : Int) < (f.blocks.length : Int) := by omega
        have hUr := HKU.out _ HG.out
        have x3 : wr.cell? ⟨w.heap.size, 3, none⟩ = some (.slice A f.blocks.length c) := cqq hUr
        have lU := qc hUr
        have hzw : wA.heap.size ≤ wr.heap.size := HG.out.size
        obtain ⟨b, off, vp, vl, vt, rfl, hbb, hp, hl, ht, q0, q1, q2, q3, q4, q5⟩ := (HKS.out _ HG.out).blk_at hlt
        obtain ⟨Ap, cp, rfl, _, _, _⟩ := hp.cases_
        obtain ⟨Al, cl, rfl, _, _, hl⟩ := hl.cases_
        obtain ⟨At, ct, rfl, _, _, ht⟩ := ht.cases_
        have hto := Hto.out _ (List.getElem_mem hlt)
        have hll := Hlen.out _ (List.getElem_mem hlt)
        have hle := q7g hlt
        have hge : f.blocks[i]? = some f.blocks[i] := List.getElem?_eq_getElem hlt
        have hsE : ∀ W : Nat × Nat -> Bool, stepP f r W (i, f.blocks[i].list.length) = (regIs f.blocks[i].end_.on r || f.blocks[i].end_.to.any fun t => W (t.toNat, 0)) := fun W => by
         unfold stepP
         dsimp only
         rw [hge]
         dsimp only
         rw [List.getElem?_eq_none (Nat.le_refl _), if_pos rfl]
        have hsI : ∀ (W : Nat × Nat -> Bool) k (hk : k < f.blocks[i].list.length), stepP f r W (i, k) = (q1x f.blocks[i].list[k] r || (W (i, k + 1) && !decide (f.blocks[i].list[k].dst = (r : Int)))) := fun W k hk => by
         unfold stepP
         dsimp only
         rw [hge]
         dsimp only
         rw [List.getElem?_eq_getElem hk]
        have hpo : ∀ k, k ≤ f.blocks[i].list.length -> (i, k) ∈ poss f := fun k hk => mem_poss.2 ⟨hlt, by show k ≤ lenB f i; omega⟩
        generalize f.blocks[i] = bk at *
        obtain ⟨Hto2, Hle, HsE, HsI, Hpo⟩ := lh5 hto hle hsE hsI hpo
        have lb : b < wr.heap.size := by omega
        obtain ⟨E, hE⟩ := nmm (wr.heap.size)
        obtain ⟨W5, hW5, hb5, hX5⟩ := box1 wr (.cells #[.slice Ap bk.phis.length cp, .slice Al bk.list.length cl, .int .i64 bk.end_.kind, .bool bk.end_.on.reg, .int .i64 bk.end_.on.n, .slice At bk.end_.to.length ct] 68) hE
        have HG5 := lh (HG.out.on hb5)
        have HT5 := lh (HT.out.below hb5)
        have HX5 := lh hX5
        have HW5 := lh hW5.symm
        have HEe := lh hE
        have hz5 : wA.heap.size ≤ W5.heap.size := HG5.out.size
        have hlE : wA.heap.size ≤ E := by omega
        have Ht := lh (ht.up (hb5.mono (by omega : W2.heap.size ≤ wr.heap.size)) (Nat.le_refl _))
        have Hl := lh (hl.up (hb5.mono (by omega : W2.heap.size ≤ wr.heap.size)) (Nat.le_refl _))
        clear hb5 hX5 hW5 hE hto hle hge hsE hsI hpo hp hUr HT HG hl ht
        go_upto_region 13 with fail
        rw [<- HEe.out, HW5.out]
        clear q0 q1 q2 q3 q4 q5 x3 lU lb
        have c1 : W5.cell? ⟨E, 1, none⟩ = some (.slice Al bk.list.length cl) := cqq HX5.out
        have c3 : W5.cell? ⟨E, 3, none⟩ = some (.bool bk.end_.on.reg) := cqq HX5.out
        have c4 : W5.cell? ⟨E, 4, none⟩ = some (.int .i64 bk.end_.on.n) := cqq HX5.out
        have c5 : W5.cell? ⟨E, 5, none⟩ = some (.slice At bk.end_.to.length ct) := cqq HX5.out
        have lE := qc HX5.out
        obtain ⟨on, hon⟩ := nmm (regIs bk.end_.on r)
        have hon2 : on = (bk.end_.on.reg && decide (bk.end_.on.n = (r : Int))) := hon
        obtain ⟨Hon, Hon2⟩ := lh2 hon hon2
        clear hon hon2
        go_upto_region 14 with fail
        go_cut [11] (fun s wx => s = .bool on ∧ wx = W5)
        case first =>
         generalize bk.end_.on.reg = ar at *
         generalize bk.end_.on.n = an at *
         by_cases h1 : an = (r : Int)
         ·have j1 : (an == (r : Int)) = true := by simpa using h1
          rw [decide_eq_true h1] at Hon2
          clear h1
          cases ar <;> (go_wp2; go_meet; exact ⟨by rw [Hon2.out]; rfl, rfl⟩)
         ·have j1 : (an == (r : Int)) = false := by simpa using h1
          rw [decide_eq_false h1] at Hon2
          clear h1
          cases ar <;> (go_wp2; go_meet; exact ⟨by rw [Hon2.out]; rfl, rfl⟩)
        case rest =>
         obtain ⟨rfl, hw⟩ := hcut
         subst hw
         rename World => W5
         clear c1 c3 c4
         have hst0 : on = (on || (bk.end_.to.take 0).any fun t => V1 (t.toNat, 0)) := by simp
         go_wp2
         go_loopg [11, 12] bk.end_.to.length (fun gh s11 s12 wr => ∃ k : Nat, k ≤ bk.end_.to.length ∧ gh = bk.end_.to.length - k ∧ s11 = .bool (on || (bk.end_.to.take k).any fun t => V1 (t.toNat, 0)) ∧ s12 = .int .i64 (k : Int) ∧ wr = W5)
         case atStart => exact ⟨0, Nat.zero_le _, rfl, by rw [<- hst0], rfl, rfl⟩
         case round =>
          clear hst0
          obtain ⟨k, hk, rfl, rfl, rfl, rfl⟩ := hrel
          have k1 := nnn k
          by_cases hkl : k < bk.end_.to.length
          ·have k2 : (k : Int) < (bk.end_.to.length : Int) := by omega
           have hnx : (on || (bk.end_.to.take (k + 1)).any fun t => V1 (t.toNat, 0)) = ((on || (bk.end_.to.take k).any fun t => V1 (t.toNat, 0)) || V1 ((bk.end_.to[k]).toNat, 0)) := by
            rw [q6m _ hkl, Bool.or_assoc]
           obtain ⟨cur, hcur⟩ : ∃ cur, cur = (on || (bk.end_.to.take k).any fun t => V1 (t.toNat, 0)) := ⟨_, rfl⟩
           rw [<- hcur] at hnx ⊢
           have Hnx := lh hnx
           clear hnx hcur
           obtain ⟨b3, off3, rfl, hb3, p0⟩ := Ht.out.int_at hkl
           have hgd : bk.end_.to.getD k 0 = bk.end_.to[k] := by rw [List.getD_eq_getElem?_getD, List.getElem?_eq_getElem hkl]; rfl
           have htk := Hto2.out _ (List.getElem_mem hkl)
           rw [hgd] at p0
           obtain ⟨q, hq⟩ : ∃ q : Nat, bk.end_.to[k] = (q : Int) := ⟨(bk.end_.to[k]).toNat, by omega⟩
           have hqn : q < f.blocks.length := by omega
           rw [hq, Int.toNat_natCast] at Hnx
           rw [hq] at p0
           have htT := HKT.out _ HG5.out q hqn
           have c0 := HT5.out.cell (k := 0) hqn (Nat.zero_le _)
           obtain ⟨n1, hn1⟩ := nmm (lenB f q + 1)
           have hn0 : (0 : Int) < (n1 : Int) := by rw [hn1]; exact Int.natCast_pos.2 (Nat.succ_pos _)
           rw [<- hn1] at htT
           have q1 := nnn q
           have q2 : (q : Int) < (f.blocks.length : Int) := Int.ofNat_lt.2 hqn
           have lb3 : b3 < wr.heap.size := Nat.lt_of_lt_of_le hb3 (Nat.le_trans hzr hz5)
           have lT : gT < wr.heap.size := Nat.lt_of_lt_of_le hgT2 hz5
           have lg := HT5.out.lt hqn
           generalize V1 (q, 0) = x at *
           clear hn1 hgd htk hq
           cases cur
           ·rw [Bool.false_or] at Hnx
            go_wp2
            go_roundg (bk.end_.to.length - (k + 1))
            case measure => omega
            case rel => exact ⟨k + 1, hkl, rfl, by rw [Hnx.out], by go_num, rfl⟩
           ·rw [Bool.true_or] at Hnx
            go_wp2
            go_roundg (bk.end_.to.length - (k + 1))
            case measure => omega
            case rel => exact ⟨k + 1, hkl, rfl, by rw [Hnx.out], by go_num, rfl⟩
          ·obtain rfl : k = bk.end_.to.length := by omega
           have k2 : ¬ (bk.end_.to.length : Int) < (bk.end_.to.length : Int) := by omega
           rw [List.take_length]
           have hstep : (on || bk.end_.to.any fun t => V1 (t.toNat, 0)) = stepP f r V1 (i, bk.list.length) := by rw [HsE.out, Hon.out]
           obtain ⟨cur, hcur⟩ : ∃ cur, cur = (on || bk.end_.to.any fun t => V1 (t.toNat, 0)) := ⟨_, rfl⟩
           rw [<- hcur] at hstep ⊢
           have hPs := HP.out.step (Hpo.out _ (Nat.le_refl _)) hstep
           have hll2 : bk.list.length ≤ lenB f i := by rw [Hle.out]; exact Nat.le_refl _
           have hTs := HT5.out.set hlt hll2 cur
           obtain ⟨HPs, HTs⟩ := lh2 hPs hTs
           have htT := HKT.out _ HG5.out i hlt
           have c0 := HT5.out.cell hlt hll2
           have fz := HT5.out.frozen bk.list.length hlt
           obtain ⟨n1, hn1⟩ := nmm (lenB f i + 1)
           have hn0 : (bk.list.length : Int) < (n1 : Int) := by rw [hn1, Hle.out]; exact Int.ofNat_lt.2 (Nat.lt_succ_self _)
           rw [<- hn1] at htT
           have lT : gT < wr.heap.size := Nat.lt_of_lt_of_le hgT2 hz5
           have lg := HT5.out.lt hlt
           have HG6 := lh (HG5.out.setCell ⟨g i, bk.list.length, none⟩ (.inl (HXi.out i hlt)) (.bool cur))
           have hX6 : (wr.setCell ⟨g i, bk.list.length, none⟩ (.bool cur)).heap[E]? = some (.cells #[.slice Ap bk.phis.length cp, .slice Al bk.list.length cl, .int .i64 bk.end_.kind, .bool bk.end_.on.reg, .int .i64 bk.end_.on.n, .slice At bk.end_.to.length ct] 68 (0, 0)) := (Below.heap_setCell _ _ _ _ (fun e => by
            have e : E = g i := e
            have h1 := Hxlt.out _ (HXi.out i hlt)
            omega)).trans HX5.out
           have HX6 := lh hX6
           have hl0 : (0 : Int) ≤ (bk.list.length : Int) := Int.natCast_nonneg _
           obtain ⟨v0, hv0⟩ : ∃ v0, v0 = V1 (i, bk.list.length) := ⟨_, rfl⟩
           rw [<- hv0] at HPs c0
           clear hstep hPs hTs hcur hX6 hn1 hll2 hv0
           go_upto_region 19 with fail
           go_cut [94] (fun s wx => s = .bool (cur && !v0) ∧ wx = wr)
           case first =>
            cases cur
            ·go_wp2
             go_meet
             exact ⟨rfl, rfl⟩
            ·cases v0
             ·go_wp2
              go_meet
              exact ⟨rfl, rfl⟩
             ·go_wp2
              go_meet
              exact ⟨rfl, rfl⟩
           case rest =>
            obtain ⟨rfl, hw⟩ := hcut
            subst hw
            rename World => W5
            go_upto_if 94 with fail
            go_cut [7] (fun s wx => s = .bool (ch1 || (cur && !v0)) ∧ wx = W5)
            case first =>
             generalize (cur && !v0) = cv at *
             cases cv
             ·go_wp2
              go_meet
              exact ⟨by rw [Bool.or_false], rfl⟩
             ·go_wp2
              go_meet
              exact ⟨by rw [Bool.or_true], rfl⟩
            case rest =>
             obtain ⟨rfl, hw⟩ := hcut
             subst hw
             rename World => W5
             generalize (ch1 || (cur && !v0)) = ch2 at *
             obtain ⟨V2, hV2⟩ : ∃ V2, V2 = putT V1 (i, bk.list.length) cur := ⟨_, rfl⟩
             have hcv : cur = V2 (i, bk.list.length) := by rw [hV2]; unfold putT; rw [if_pos rfl]
             rw [<- hV2] at HPs HTs
             have HPn : Hid (PassI f r V V2 ch2 (fun p => p ∈ poss f ∧ (i + 1 ≤ p.1 ∨ (p.1 = i ∧ bk.list.length ≤ p.2)))) := lh (HPs.out.weak fun p hp => by
              rcases hp.2 with h1 | ⟨h1, h2⟩
              ·exact .inl (.inl ⟨hp.1, h1⟩)
              ·have h3 := (mem_poss.1 hp.1).2
               rw [h1, Hle.out] at h3
               exact .inl (.inr (Prod.ext h1 (by show p.2 = bk.list.length; omega))))
             subst hcv
             clear hV2 HPs
             go_upto_region 22 with fail
             clear c5 fz htT c0
             obtain ⟨W6, hW6⟩ : ∃ W6, W6 = W5.setCell ⟨g i, bk.list.length, none⟩ (.bool (V2 (i, bk.list.length))) := ⟨_, rfl⟩
             have hG56 : Grew X W5 W6 := by rw [hW6]; exact (Grew.refl X W5).setCell ⟨g i, bk.list.length, none⟩ (.inl (HXi.out i hlt)) _
             rw [<- hW6] at HTs HG6 HX6 ⊢
             have Hl6 := lh (Hl.out.up (hG56.below (B := W2.heap.size) (fun j hj e => by have := HXn.out j e; omega) (Nat.le_trans hzr hz5)) (Nat.le_refl _))
             have hz6 : wA.heap.size ≤ W6.heap.size := HG6.out.size
             have lE6 := qc HX6.out
             have hG0 : Hid (Grew X W6 W6) := lh (Grew.refl _ _)
             have hXE : ¬ X E := fun h => by have := Hxlt.out E h; omega
             have hzW : W2.heap.size ≤ W6.heap.size := Nat.le_trans hzr hz6
             clear hW6 hG56 lE lT lg HX5 HG5 HT5 HW5 hz5 Hl Ht
             go_wp2
             go_loopg [7, 11, 13] bk.list.length (fun gh s7 s11 s13 wr => ∃ (m : Nat) (V3 : Nat × Nat -> Bool) (ch3 : Bool), m ≤ bk.list.length ∧ gh = m ∧ s7 = .bool ch3 ∧ s11 = .bool (V3 (i, m)) ∧ s13 = .int .i64 ((m : Int) - 1) ∧ Hid (PassI f r V V3 ch3 (fun p => p ∈ poss f ∧ (i + 1 ≤ p.1 ∨ (p.1 = i ∧ m ≤ p.2)))) ∧ Hid (LTab f g W2.heap.size f.blocks.length V3 wr) ∧ Hid (Grew X W6 wr))
             case atStart => exact ⟨bk.list.length, V2, ch2, Nat.le_refl _, rfl, rfl, rfl, by go_num, HPn, HTs, hG0⟩
             case round =>
              clear HPn HTs hG0
              obtain ⟨m, V3, ch3, hm, hg5, rfl, rfl, rfl, HPn, HT3, HG3⟩ := hrel
              have Hg5 := lh hg5
              clear hg5
              have HG7 := lh (HG6.out.trans HG3.out (fun _ _ e => e))
              cases m with
              | zero =>
                have e2 : (((0 : Nat) : Int) - 1) = -1 := rfl
                have HP7 : Hid (PassI f r V V3 ch3 (fun p => p ∈ poss f ∧ i ≤ p.1)) := lh (HPn.out.weak fun p hp => .inl ⟨hp.1, by
                 have := hp.2
                 omega⟩)
                rw [e2]
                clear HPn HG3
                go_wp2
                go_roundg i
                case measure => have := Hg3.out; omega
                case rel => exact ⟨i, V3, ch3, by omega, rfl, rfl, by go_num, HP7, HT3, HG7⟩
              | succ k =>
                have hkl : k < bk.list.length := by omega
                have e2 : (((k + 1 : Nat) : Int) - 1) = (k : Int) := by omega
                rw [e2]
                have k1 := nnn k
                have k2 : (k : Int) < (bk.list.length : Int) := Int.ofNat_lt.2 hkl
                have hz7 : W6.heap.size ≤ wr.heap.size := HG3.out.size
                have hXr := (HG3.out.block E lE6 hXE).trans HX6.out
                have Hlr := lh (Hl6.out.up (HG3.out.below (B := W2.heap.size) (fun j hj e => by have := HXn.out j e; omega) hzW) (Nat.le_refl _))
                obtain ⟨b2, off2, va, rfl, hb2, hva, e0, e1', e2', e3, e4, e5, e6, e7⟩ := Hlr.out.ins_at hkl
                obtain ⟨Aa, ca, rfl, _, _, hva⟩ := hva.cases_
                have hst := HsI.out V3 k hkl
                have hpk := Hpo.out k (Nat.le_of_lt hkl)
                generalize bk.list[k] = x at *
                have c1 : wr.cell? ⟨E, 1, none⟩ = some (.slice (some ⟨b2, off2, none⟩) bk.list.length cl) := cqq hXr
                have lE := qc hXr
                have lb2 : b2 < wr.heap.size := Nat.lt_of_lt_of_le hb2 (Nat.le_trans hzW hz7)
                have Hva := lh (hva.up (Below.refl _ _ : Below W2.heap.size wr wr) (Nat.le_trans hzW hz7))
                obtain ⟨y, hy⟩ : ∃ y, y = stepP f r V3 (i, k) := ⟨_, rfl⟩
                rw [<- hy] at hst
                have hPs := HPn.out.step hpk hy
                obtain ⟨HPs, Hst, HXr⟩ := lh3 hPs hst hXr
                obtain ⟨cu, hcu⟩ : ∃ cu, cu = V3 (i, k + 1) := ⟨_, rfl⟩
                rw [<- hcu] at Hst ⊢
                clear hst hy hPs hcu hXr hva
                go_upto_region 25 with fail
                go_cut [11] (fun s wx => s = .bool y ∧ Hid (Below wr.heap.size wr wx))
                case first =>
                 go_wp2_with fail
                 refine q6v x Aa ca r _ Hva.out _ (fun w8 hb8 => ?_)
                 have Hb8 := lh hb8
                 have d1 := (hb8.cell (p := ⟨E, 1, none⟩) lE).trans c1
                 have d2 := (hb8.cell (p := ⟨b2, off2 + k * 8 + 1, none⟩) lb2).trans e1'
                 have lE8 : E < w8.heap.size := Nat.lt_of_lt_of_le lE hb8.size
                 have lb8 : b2 < w8.heap.size := Nat.lt_of_lt_of_le lb2 hb8.size
                 clear hb8 c1 e0 e1' e2' e3 e4 e5 e6 e7 lE lb2
                 generalize q1x x r = tk at *
                 cases tk
                 ·cases cu
                  ·go_wp2
                   go_meet
                   exact ⟨by rw [Hst.out]; rfl, Hb8⟩
                  ·by_cases h1 : x.dst = (r : Int)
                   ·have j1 : (x.dst == (r : Int)) = true := by simpa using h1
                    have j2 : (x.dst != (r : Int)) = false := by simpa using h1
                    rw [decide_eq_true h1] at Hst
                    clear h1
                    go_wp2
                    go_meet
                    exact ⟨by rw [Hst.out]; rfl, Hb8⟩
                   ·have j1 : (x.dst == (r : Int)) = false := by simpa using h1
                    have j2 : (x.dst != (r : Int)) = true := by simpa using h1
                    rw [decide_eq_false h1] at Hst
                    clear h1
                    go_wp2
                    go_meet
                    exact ⟨by rw [Hst.out]; rfl, Hb8⟩
                 ·go_wp2
                  go_meet
                  exact ⟨by rw [Hst.out]; rfl, Hb8⟩
                case rest =>
                 obtain ⟨rfl, Hb8⟩ := hcut
                 rename World => w8
                 have HG8 := lh (HG3.out.on Hb8.out)
                 have HG9 := lh (HG7.out.on Hb8.out)
                 have HT8 := lh (HT3.out.below Hb8.out)
                 have hlk : k ≤ lenB f i := by rw [Hle.out]; exact Nat.le_of_lt hkl
                 have hTs := HT8.out.set hlt hlk y
                 have HTs := lh hTs
                 have htT := HKT.out _ HG9.out i hlt
                 have c0 := HT8.out.cell hlt hlk
                 have fz := HT8.out.frozen k hlt
                 obtain ⟨n2, hn2⟩ := nmm (lenB f i + 1)
                 have hn0 : (k : Int) < (n2 : Int) := by rw [hn2, Hle.out]; exact Int.ofNat_lt.2 (Nat.lt_succ_of_lt hkl)
                 rw [<- hn2] at htT
                 have hz8 : wA.heap.size ≤ w8.heap.size := HG9.out.size
                 have lT : gT < w8.heap.size := Nat.lt_of_lt_of_le hgT2 hz8
                 have lg := HT8.out.lt hlt
                 have HG10 := lh (HG8.out.setCell ⟨g i, k, none⟩ (.inl (HXi.out i hlt)) (.bool y))
                 obtain ⟨v1, hv1⟩ : ∃ v1, v1 = V3 (i, k) := ⟨_, rfl⟩
                 rw [<- hv1] at HPs c0
                 obtain ⟨V4, hV4⟩ : ∃ V4, V4 = putT V3 (i, k) y := ⟨_, rfl⟩
                 have hcv : y = V4 (i, k) := by rw [hV4]; unfold putT; rw [if_pos rfl]
                 rw [<- hV4] at HPs HTs
                 have Hcv := lh hcv
                 clear hTs hn2 hv1 hV4 hcv hlk c1 e0 e1' e2' e3 e4 e5 e6 e7 lE lb2
                 go_upto_region 26 with fail
                 go_cut [138] (fun s wx => s = .bool (y && !v1) ∧ wx = w8)
                 case first =>
                  cases y
                  ·go_wp2
                   go_meet
                   exact ⟨rfl, rfl⟩
                  ·cases v1
                   ·go_wp2
                    go_meet
                    exact ⟨rfl, rfl⟩
                   ·go_wp2
                    go_meet
                    exact ⟨rfl, rfl⟩
                 case rest =>
                  obtain ⟨rfl, hw⟩ := hcut
                  subst hw
                  rename World => w8
                  go_upto_if 138 with fail
                  go_cut [7] (fun s wx => s = .bool (ch3 || (y && !v1)) ∧ wx = w8)
                  case first =>
                   generalize (y && !v1) = cv at *
                   cases cv
                   ·go_wp2
                    go_meet
                    exact ⟨by rw [Bool.or_false], rfl⟩
                   ·go_wp2
                    go_meet
                    exact ⟨by rw [Bool.or_true], rfl⟩
                  case rest =>
                   obtain ⟨rfl, hw⟩ := hcut
                   subst hw
                   rename World => w8
                   generalize (ch3 || (y && !v1)) = ch4 at *
                   have HP9 : Hid (PassI f r V V4 ch4 (fun p => p ∈ poss f ∧ (i + 1 ≤ p.1 ∨ (p.1 = i ∧ k ≤ p.2)))) := lh (HPs.out.weak fun p hp => by
                    rcases hp.2 with h1 | ⟨h1, h2⟩
                    ·exact .inl (.inl ⟨hp.1, .inl h1⟩)
                    ·rcases Nat.lt_or_ge k p.2 with h3 | h3
                     ·exact .inl (.inl ⟨hp.1, .inr ⟨h1, h3⟩⟩)
                     ·exact .inl (.inr (Prod.ext h1 (Nat.le_antisymm h3 h2))))
                   clear HPs
                   go_wp2
                   go_roundg k
                   case measure => have := Hg5.out; omega
                   case rel => exact ⟨k, V4, ch4, Nat.le_of_lt hkl, rfl, rfl, by rw [Hcv.out], by go_num, HP9, HTs, HG10⟩
end Go.Proofs.YtdanebboiekieaaGreatDoor
