/- Package peep: jumps, what is quiet, what asks. What is reached, and where jumps go, plainly: rows of truth values that grow. Package peep: what is known of code. Package peep: windows; what is live behind an instruction; what stands beside one. -/
import Derived.Test.YtemakpjickbmnaaDoorBase
import Derived.Test.YtemakpjickbmnaaDoorRows
import Derived.IntWalk
import Derived.Outline
import Derived.Deep.LoopGhost
import Derived.Test.YtemakpjickbmnaaDoorPkA
import Derived.Deep.RegionLaw
import Derived.Deep.CutBlock
import Derived.Deep.DeepCutAuto
import Derived.Laws.MakeOwn
import Derived.Laws.AppendOwnNone
/- Package peep: jumps, what is quiet, what asks. -/
namespace Go.Proofs.YtemakpjickbmnaaDoor
open Go.RowKit
set_option linter.unusedSimpArgs false
set_option linter.unusedVariables false

set_option maxHeartbeats 400000 in
theorem jumps_calls (m : Mac) (w : World) (R : Ending → World → Prop) (hR : ∀ w', Below w.heap.size w w' → R (.returned (.bool (jumpsM m))) w') :
    Calls Tryd.prog 125 #[.agg #[.int .i64 m.op, .int .i64 m.dst, .int .i64 m.a, .int .i64 m.b, .int .i64 m.n]] w R := by
  unfold jumpsM at hR
  have HR := Lib.hid hR
  clear hR
  go_enter Tryd.func125, Tryd.ntmps125
  go_wp2_with fail
  refine Within_calls _ _ _ _ _ ?_
  generalize decide (37 ≤ m.op ∧ m.op ≤ 43) = x at *
  go_wp2
  exact HR.out _ bl0
set_option maxHeartbeats 400000 in
theorem quietM_calls (m : Mac) (w : World) (R : Ending → World → Prop) (hR : ∀ w', Below w.heap.size w w' → R (.returned (.bool (quietM m))) w') :
    Calls Tryd.prog 128 #[.agg #[.int .i64 m.op, .int .i64 m.dst, .int .i64 m.a, .int .i64 m.b, .int .i64 m.n]] w R := by
  unfold quietM at hR
  by_cases h1 : 1 ≤ m.op ∧ m.op ≤ 4
  · rw [if_pos h1] at hR
    have HR := Lib.hid hR
    have hd : decide (1 ≤ m.op ∧ m.op ≤ 4) = true := decide_eq_true h1
    clear hR h1
    go_enter Tryd.func128, Tryd.ntmps128
    go_wp2_with (go_at_call 88; refine Within_calls _ _ _ _ _ ?_; rw [hd])
    exact HR.out _ bl0
  rw [if_neg h1] at hR
  have hd1 : decide (1 ≤ m.op ∧ m.op ≤ 4) = false := decide_eq_false h1
  clear h1
  by_cases h35 : m.op = 35
  · rw [if_pos h35] at hR
    have HR := Lib.hid hR
    have i35 : (m.op == 35) = true := by simpa using h35
    clear hR h35
    go_enter Tryd.func128, Tryd.ntmps128
    go_wp2_with (go_at_call 88; refine Within_calls _ _ _ _ _ ?_; rw [hd1])
    exact HR.out _ bl0
  rw [if_neg h35] at hR
  have i35 : (m.op == 35) = false := by simpa using h35
  clear h35
  by_cases h22 : m.op = 22 ∨ m.op = 23
  · rw [if_pos h22] at hR
    have HR := Lib.hid hR
    clear hR
    rcases h22 with h22 | h23
    · have i22 : (m.op == 22) = true := by simpa using h22
      clear h22
      go_enter Tryd.func128, Tryd.ntmps128
      go_wp2_with (go_at_call 88; refine Within_calls _ _ _ _ _ ?_; rw [hd1])
      exact HR.out _ bl0
    · have i22 : (m.op == 22) = false := by simp; omega
      have i23 : (m.op == 23) = true := by simpa using h23
      clear h23
      go_enter Tryd.func128, Tryd.ntmps128
      go_wp2_with (go_at_call 88; refine Within_calls _ _ _ _ _ ?_; rw [hd1])
      exact HR.out _ bl0
  rw [if_neg h22] at hR
  have i22 : (m.op == 22) = false := by simp; omega
  have i23 : (m.op == 23) = false := by simp; omega
  have HR := Lib.hid hR
  clear hR h22
  by_cases h5 : 5 ≤ m.op ∧ m.op ≤ 32
  · have hd5 : decide (5 ≤ m.op ∧ m.op ≤ 32) = true := decide_eq_true h5
    rw [hd5, Bool.true_and] at HR
    clear h5
    by_cases h8 : m.op = 8
    · have i8 : (m.op != 8) = false := by simpa using h8
      rw [decide_eq_true h8, Bool.not_true, Bool.false_and] at HR
      clear h8
      go_enter Tryd.func128, Tryd.ntmps128
      go_wp2_with (go_at_call 88; refine Within_calls _ _ _ _ _ ?_; first | rw [hd1] | rw [hd5])
      exact HR.out _ bl0
    · have i8 : (m.op != 8) = true := by simpa using h8
      rw [decide_eq_false h8, Bool.not_false, Bool.true_and] at HR
      clear h8
      by_cases h9 : m.op = 9
      · have i9 : (m.op != 9) = false := by simpa using h9
        rw [decide_eq_true h9, Bool.not_true] at HR
        clear h9
        go_enter Tryd.func128, Tryd.ntmps128
        go_wp2_with (go_at_call 88; refine Within_calls _ _ _ _ _ ?_; first | rw [hd1] | rw [hd5])
        exact HR.out _ bl0
      · have i9 : (m.op != 9) = true := by simpa using h9
        rw [decide_eq_false h9, Bool.not_false] at HR
        clear h9
        go_enter Tryd.func128, Tryd.ntmps128
        go_wp2_with (go_at_call 88; refine Within_calls _ _ _ _ _ ?_; first | rw [hd1] | rw [hd5])
        exact HR.out _ bl0
  · have hd5 : decide (5 ≤ m.op ∧ m.op ≤ 32) = false := decide_eq_false h5
    rw [hd5, Bool.false_and, Bool.false_and] at HR
    clear h5
    go_enter Tryd.func128, Tryd.ntmps128
    go_wp2_with (go_at_call 88; refine Within_calls _ _ _ _ _ ?_; first | rw [hd1] | rw [hd5])
    exact HR.out _ bl0
end Go.Proofs.YtemakpjickbmnaaDoor

/- What is reached, and where jumps go, plainly: rows of truth values that grow. -/
namespace Go.Proofs.YtemakpjickbmnaaDoor
open Go.RowKit
set_option linter.unusedSimpArgs false
set_option linter.unusedVariables false

def atB (S : List Bool) (i : Nat) : Bool := S.getD i false
theorem atB_set {S : List Bool} {i k : Nat} {x : Bool} (h : i < S.length) : atB (S.set i x) k = if k = i then x else atB S k := by
  unfold atB
  rw [List.getD_eq_getElem?_getD, List.getD_eq_getElem?_getD, List.getElem?_set]
  by_cases e : i = k
  · subst e
    rw [if_pos rfl, if_pos h, if_pos rfl]
    rfl
  · rw [if_neg e, if_neg (fun x => e x.symm)]
/-- What holds of what is reached, and of what is still to do, on the way. -/
structure GoodR (l : List Mac) (S : List Bool) (T : List Int) : Prop where
  len : S.length = l.length
  sound : ∀ i, atB S i = true → Reach l i
  stack : ∀ t ∈ T, 0 ≤ t ∧ t < (l.length : Int) ∧ Reach l t.toNat
  closed : ∀ i, i < l.length → atB S i = true → ∀ k ∈ nextL l i, atB S k.toNat = true ∨ k ∈ T
  first : atB S 0 = true ∨ (0 : Int) ∈ T
def leftR (S : List Bool) : Nat := S.countP fun b => !b
theorem leftR_set : ∀ {S : List Bool} {i : Nat}, i < S.length → atB S i = false → leftR (S.set i true) + 1 = leftR S
  | x :: S, 0, _, h => by
    simp [atB] at h
    subst h
    simp [leftR]
  | x :: S, i + 1, hi, h => by
    have := leftR_set (S := S) (i := i) (by simpa using hi) (by simpa [atB] using h)
    simp only [leftR, List.set_cons_succ, List.countP_cons] at this ⊢
    omega
theorem atB_none {n i : Nat} : atB (List.replicate n false) i = false := by
  unfold atB
  rw [List.getD_eq_getElem?_getD, List.getElem?_replicate]
  split <;> rfl
theorem GoodR.begin {l : List Mac} (h : MacsOk l) : GoodR l (List.replicate l.length false) [0] := by
  refine ⟨List.length_replicate, fun i hi => by rw [atB_none] at hi; (cases hi), fun t ht => ?_, fun i _ hi => by rw [atB_none] at hi; (cases hi), .inr (by simp)⟩
  have e : t = 0 := by simpa using ht
  subst e
  have := h.some_
  exact ⟨by omega, by omega, .first⟩
theorem GoodR.had {l : List Mac} {S : List Bool} {T : List Int} {t : Int} (h : GoodR l S (T ++ [t])) (ht : atB S t.toNat = true) : GoodR l S T := by
  refine ⟨h.len, h.sound, fun x hx => h.stack x (by simp [hx]), fun i hi hs k hk => ?_, ?_⟩
  · rcases h.closed i hi hs k hk with e | e
    · exact .inl e
    · rcases List.mem_append.1 e with e | e
      · exact .inr e
      · obtain rfl : k = t := by simpa using e
        exact .inl ht
  · rcases h.first with e | e
    · exact .inl e
    · rcases List.mem_append.1 e with e | e
      · exact .inr e
      · obtain rfl : (0 : Int) = t := by simpa using e
        exact .inl ht
theorem GoodR.new {l : List Mac} (hl : MacsOk l) {S : List Bool} {T : List Int} {t : Int} (h : GoodR l S (T ++ [t])) : GoodR l (S.set t.toNat true) (T ++ nextL l t.toNat) := by
  obtain ⟨h0, h1, h2⟩ := h.stack t (by simp)
  have htl : t.toNat < l.length := by omega
  have hts : t.toNat < S.length := by rw [h.len]; exact htl
  refine ⟨by rw [List.length_set]; exact h.len, fun i hi => ?_, fun x hx => ?_, fun i hi hs k hk => ?_, ?_⟩
  · rw [atB_set hts] at hi
    by_cases e : i = t.toNat
    · rw [e]; exact h2
    · rw [if_neg e] at hi; exact h.sound i hi
  · rcases List.mem_append.1 hx with e | e
    · exact h.stack x (by simp [e])
    · have hb := nextL_lt hl htl x e
      refine ⟨hb.1, hb.2, .next h2 ((nextL_iff htl).1 (by rwa [Int.toNat_of_nonneg hb.1])) (by omega)⟩
  · rw [atB_set hts] at hs ⊢
    by_cases e : i = t.toNat
    · right
      rw [e] at hk
      simp [hk]
    · rw [if_neg e] at hs
      rcases h.closed i hi hs k hk with e1 | e1
      · left
        split
        · rfl
        · exact e1
      · rcases List.mem_append.1 e1 with e1 | e1
        · right; simp [e1]
        · obtain rfl : k = t := by simpa using e1
          left
          rw [if_pos rfl]
  · rw [atB_set hts]
    rcases h.first with e1 | e1
    · left
      split
      · rfl
      · exact e1
    · rcases List.mem_append.1 e1 with e1 | e1
      · right; simp [e1]
      · obtain rfl : (0 : Int) = t := by simpa using e1
        left
        rw [if_pos (by rfl)]
theorem ext_atB {S S' : List Bool} (h : S.length = S'.length) (he : ∀ i, i < S.length → atB S i = atB S' i) : S = S' := by
  apply List.ext_getElem h
  intro i h1 h2
  have := he i h1
  unfold atB at this
  rw [List.getD_eq_getElem?_getD, List.getD_eq_getElem?_getD, List.getElem?_eq_getElem h1, List.getElem?_eq_getElem h2] at this
  exact this
theorem atB_map {n i : Nat} {f : Nat → Bool} (h : i < n) : atB ((List.range n).map f) i = f i := by
  unfold atB
  rw [List.getD_eq_getElem?_getD, List.getElem?_map, List.getElem?_range h]
  rfl
noncomputable def reachW (l : List Mac) : List Bool := (List.range l.length).map (reachB l)
theorem GoodR.done {l : List Mac} (hl : MacsOk l) {S : List Bool} (h : GoodR l S []) : S = reachW l := by
  have back : ∀ i, Reach l i → atB S i = true := fun i hR => by
    induction hR with
    | first => simpa using h.first
    | @next i k hR hs hk ih =>
      have hi := reach_lt hl.some_ hR
      have := h.closed i hi ih k ((nextL_iff hi).2 hs)
      simpa using this
  apply ext_atB
  · rw [h.len]; simp [reachW]
  · intro i h1
    unfold reachW
    rw [atB_map (by rw [← h.len]; exact h1)]
    cases hb : atB S i
    · cases hc : reachB l i
      · rfl
      · rw [back i (reachB_iff.1 hc)] at hb; cases hb
    · exact (reachB_iff.2 (h.sound i hb)).symm
/-- Where jumps of the first instructions go. -/
def markTo (l : List Mac) (k : Nat) : List Bool := (List.range l.length).map fun (j : Nat) => (l.take k).any fun m => jumpsM m && decide (m.n = (j : Int))
def markL (l : List Mac) : List Bool := (List.range l.length).map (markB l)
theorem markTo_len (l : List Mac) (k : Nat) : (markTo l k).length = l.length := by simp [markTo]
theorem markTo_at {l : List Mac} {k j : Nat} (hj : j < l.length) : atB (markTo l k) j = (l.take k).any fun m => jumpsM m && decide (m.n = (j : Int)) := atB_map hj
theorem markTo_first (l : List Mac) : markTo l 0 = List.replicate l.length false := by
  apply ext_atB
  · rw [markTo_len, List.length_replicate]
  · intro i h1
    rw [markTo_at (by rwa [markTo_len] at h1), atB_none]
    simp
theorem markTo_end (l : List Mac) : markTo l l.length = markL l := by
  unfold markTo markL markB
  rw [List.take_length]
theorem markTo_step {l : List Mac} (hl : MacsOk l) {k : Nat} (hk : k < l.length) : markTo l (k + 1) = if jumpsM (atL l k) = true then (markTo l k).set (atL l k).n.toNat true else markTo l k := by
  have hm := hl.at_ hk
  have e : l.take (k + 1) = l.take k ++ [atL l k] := by
    rw [List.take_add_one, List.getElem?_eq_getElem hk, atL_get hk]
    rfl
  apply ext_atB
  · split
    · rw [List.length_set, markTo_len, markTo_len]
    · rw [markTo_len, markTo_len]
  · intro j h1
    have hj : j < l.length := by rwa [markTo_len] at h1
    rw [markTo_at hj, e, List.any_append]
    cases hj2 : jumpsM (atL l k)
    · rw [if_neg (by simp), markTo_at hj]
      simp [hj2]
    · have hop : 37 ≤ (atL l k).op ∧ (atL l k).op ≤ 43 := by unfold jumpsM at hj2; simpa using hj2
      have hb := hm.jump hop.1 hop.2
      rw [if_pos rfl, atB_set (by rw [markTo_len]; omega), markTo_at hj]
      by_cases e1 : j = (atL l k).n.toNat
      · rw [if_pos e1]
        have : (atL l k).n = (j : Int) := by omega
        simp [this, hj2]
      · rw [if_neg e1]
        have : ¬ (atL l k).n = (j : Int) := by omega
        simp [this]
end Go.Proofs.YtemakpjickbmnaaDoor

/- Package peep: what is known of code. -/
namespace Go.Proofs.YtemakpjickbmnaaDoor
open Go.RowKit
set_option linter.unusedSimpArgs false
set_option linter.unusedVariables false

def boolsA (S : List Bool) : Array Value := (S.map Value.bool).toArray
theorem boolsA_get {S : List Bool} {k : Nat} (h : k < S.length) : (boolsA S)[k]? = some (.bool (atB S k)) := by
  unfold boolsA atB
  rw [List.getElem?_toArray, List.getElem?_map, List.getElem?_eq_getElem h, List.getD_eq_getElem?_getD, List.getElem?_eq_getElem h]
  rfl
theorem boolsA_set {S : List Bool} {k : Nat} (x : Bool) : (boolsA S).setIfInBounds k (.bool x) = boolsA (S.set k x) := by
  unfold boolsA
  rw [List.setIfInBounds_toArray, List.map_set]
theorem info_bool2 : (Tryd.prog.info? 4).map (fun i => (i.zero, i.size, i.bytes)) = some (some (.bool false), 1, 1) := by kernel_rfl
theorem make_bools2 (W : World) (n : Nat) (hn : n ≤ 5000) : (Instr.makeSlice 30 (.int .i64 (n : Int)) (.int .i64 (n : Int))).run Tryd.prog W = .ok (.slice (some ⟨W.heap.size, 0, none⟩) n n) (W.alloc (.cells (boolsA (List.replicate n false)) 4)) := by
  obtain ⟨iB, hi, z0, z1, z2⟩ := info_parts info_bool2
  have h := run_make (P := Tryd.prog) W 30 4 iB _ Tryd.underlying30 hi z0 .i64 .i64 (n : Int) (n : Int) (by omega) (Int.le_refl _) (by rw [z2]; omega) (by omega)
  rw [z1] at h
  simp only [Int.toNat_natCast, Nat.mul_one] at h
  have e : madeCells (Value.bool false).cells n = boolsA (List.replicate n false) := by
    unfold madeCells boolsA
    apply Array.ext
    · simp
    · intro i h1 h2
      simp [Value.cells, Nat.mod_one]
  rw [e] at h
  exact h
theorem bools_blk {w : World} {g B : Nat} {S : List Bool} {T : TypeId} {fr : Nat × Nat} (h : w.heap[g]? = some (.cells (boolsA S) T fr)) (hB : w.heap.size ≤ B) (hm : S.length ≤ maxLen) : rpBool.SL w B S (.slice (some ⟨g, 0, none⟩) S.length S.length) := by
  refine ⟨_, _, rfl, hm, Nat.le_refl _, fun _ => ⟨g, 0, rfl, by have := blk_lt h; omega, fun k x hk => ⟨_, rfl, fun j u hj => ?_⟩⟩⟩
  cases j with
  | zero =>
    simp at hj
    subst hj
    have : w.cell? ⟨g, k, none⟩ = some (.bool x) := by simp [World.cell?, h, boolsA, hk]
    simpa [rpBool] using this
  | succ j => simp at hj
/-- The window on the way: its variable, its rows. -/
structure LkW (w wr : World) (l : List Mac) (v vl : Value) (p gr gm b : Nat) (S M : List Bool) : Prop where
  hp : wr.heap[p]? = some (.cells #[v, vl, .slice (some ⟨gr, 0, none⟩) l.length l.length, .slice (some ⟨gm, 0, none⟩) l.length l.length] 169 (0, 0))
  hr : wr.heap[gr]? = some (.cells (boolsA S) 4 (0, 0))
  hm : wr.heap[gm]? = some (.cells (boolsA M) 4 (0, 0))
  bel : Below w.heap.size w wr
  live : rpInt.slice.SLF wr b wr.heap.size (liveL l) vl
  lt : p < b ∧ gr < b ∧ gm < b
  ge : w.heap.size ≤ p ∧ w.heap.size ≤ gr ∧ w.heap.size ≤ gm
  ne : p ≠ gr ∧ p ≠ gm ∧ gr ≠ gm
theorem LkW.below {w wr w' : World} {l : List Mac} {v vl : Value} {p gr gm b : Nat} {S M : List Bool} (h : LkW w wr l v vl p gr gm b S M) (hb : Below wr.heap.size wr w') : LkW w w' l v vl p gr gm b S M where
  hp := (hb.block _ (blk_lt h.hp)).trans h.hp
  hr := (hb.block _ (blk_lt h.hr)).trans h.hr
  hm := (hb.block _ (blk_lt h.hm)).trans h.hm
  bel := h.bel.trans (hb.mono h.bel.size)
  live := (h.live.below hb (Nat.le_refl _)).more (Nat.le_refl _) hb.size
  lt := h.lt
  ge := h.ge
  ne := h.ne
theorem LkW.setR {w wr : World} {l : List Mac} {v vl : Value} {p gr gm b : Nat} {S M : List Bool} (h : LkW w wr l v vl p gr gm b S M) (j : Nat) (x : Bool) : LkW w (wr.setCell ⟨gr, j, none⟩ (.bool x)) l v vl p gr gm b (S.set j x) M where
  hp := blk_other h.hp h.ne.1 _
  hr := by rw [block_set h.hr, boolsA_set]
  hm := blk_other h.hm (Ne.symm h.ne.2.2) _
  bel := h.bel.setCell (p := ⟨gr, j, none⟩) h.ge.2.1 _
  live := (h.live.setCell ⟨gr, j, none⟩ h.lt.2.1 _).more (Nat.le_refl _) (by simp [World.setCell])
  lt := h.lt
  ge := h.ge
  ne := h.ne
theorem LkW.setM {w wr : World} {l : List Mac} {v vl : Value} {p gr gm b : Nat} {S M : List Bool} (h : LkW w wr l v vl p gr gm b S M) (j : Nat) (x : Bool) : LkW w (wr.setCell ⟨gm, j, none⟩ (.bool x)) l v vl p gr gm b S (M.set j x) where
  hp := blk_other h.hp h.ne.2.1 _
  hr := blk_other h.hr h.ne.2.2 _
  hm := by rw [block_set h.hm, boolsA_set]
  bel := h.bel.setCell (p := ⟨gm, j, none⟩) h.ge.2.2 _
  live := (h.live.setCell ⟨gm, j, none⟩ h.lt.2.2 _).more (Nat.le_refl _) (by simp [World.setCell])
  lt := h.lt
  ge := h.ge
  ne := h.ne
/-- Its cells. -/
structure LkC (wr : World) (l : List Mac) (v vl : Value) (p gr gm : Nat) (S M : List Bool) : Prop where
  c0 : wr.cell? ⟨p, 0, none⟩ = some v
  c2 : wr.cell? ⟨p, 2, none⟩ = some (.slice (some ⟨gr, 0, none⟩) l.length l.length)
  c3 : wr.cell? ⟨p, 3, none⟩ = some (.slice (some ⟨gm, 0, none⟩) l.length l.length)
  r : ∀ k, k < S.length → wr.cell? ⟨gr, k, none⟩ = some (.bool (atB S k))
  m : ∀ k, k < M.length → wr.cell? ⟨gm, k, none⟩ = some (.bool (atB M k))
  fr : ∀ k, wr.frozen? ⟨gr, k, none⟩ = false
  fm : ∀ k, wr.frozen? ⟨gm, k, none⟩ = false
  lp : p < wr.heap.size
  lr : gr < wr.heap.size
  lm : gm < wr.heap.size
theorem LkW.cells {w wr : World} {l : List Mac} {v vl : Value} {p gr gm b : Nat} {S M : List Bool} (h : LkW w wr l v vl p gr gm b S M) : LkC wr l v vl p gr gm S M where
  c0 := by rw [blk_cell' h.hp]; rfl
  c2 := by rw [blk_cell' h.hp]; rfl
  c3 := by rw [blk_cell' h.hp]; rfl
  r := fun k hk => by rw [blk_cell' h.hr]; exact boolsA_get hk
  m := fun k hk => by rw [blk_cell' h.hm]; exact boolsA_get hk
  fr := fun k => by simp [World.frozen?, h.hr]
  fm := fun k => by simp [World.frozen?, h.hm]
  lp := blk_lt h.hp
  lr := blk_lt h.hr
  lm := blk_lt h.hm
/-- The window while ways are followed: blocks below B2 are as in W4, but for the row of what is reached. -/
structure LkQ (w W4 wr : World) (l : List Mac) (v vl : Value) (p gr gm : Nat) (S : List Bool) : Prop where
  hp : wr.heap[p]? = some (.cells #[v, vl, .slice (some ⟨gr, 0, none⟩) l.length l.length, .slice (some ⟨gm, 0, none⟩) l.length l.length] 169 (0, 0))
  hr : wr.heap[gr]? = some (.cells (boolsA S) 4 (0, 0))
  bel : Below w.heap.size w wr
  mid : ∀ k, k ≠ gr → k < W4.heap.size → wr.heap[k]? = W4.heap[k]?
  lt : p < W4.heap.size ∧ gr < W4.heap.size
  ge : w.heap.size ≤ gr
  ne : p ≠ gr
  big : w.heap.size ≤ W4.heap.size
  sz : W4.heap.size ≤ wr.heap.size
theorem LkQ.below {w W4 wr w' : World} {l : List Mac} {v vl : Value} {p gr gm : Nat} {S : List Bool} (h : LkQ w W4 wr l v vl p gr gm S) (hb : Below W4.heap.size wr w') : LkQ w W4 w' l v vl p gr gm S where
  hp := (hb.block _ h.lt.1).trans h.hp
  hr := (hb.block _ h.lt.2).trans h.hr
  bel := h.bel.trans (hb.mono h.big)
  mid := fun k h1 h2 => (hb.block _ h2).trans (h.mid k h1 h2)
  lt := h.lt
  ge := h.ge
  ne := h.ne
  big := h.big
  sz := Nat.le_trans h.sz hb.size
theorem LkQ.setR {w W4 wr : World} {l : List Mac} {v vl : Value} {p gr gm : Nat} {S : List Bool} (h : LkQ w W4 wr l v vl p gr gm S) (j : Nat) (x : Bool) : LkQ w W4 (wr.setCell ⟨gr, j, none⟩ (.bool x)) l v vl p gr gm (S.set j x) where
  hp := blk_other h.hp h.ne _
  hr := by rw [block_set h.hr, boolsA_set]
  bel := h.bel.setCell (p := ⟨gr, j, none⟩) h.ge _
  mid := fun k h1 h2 => (Below.heap_setCell _ _ _ _ h1).trans (h.mid k h1 h2)
  lt := h.lt
  ge := h.ge
  ne := h.ne
  big := h.big
  sz := by simpa [World.setCell] using h.sz
theorem own_prefix {w : World} {base : Nat} {e : TypeId} {g cap n : Nat} {T : List Int} {t : Int} (h : w.ownsRow base e 1 (.slice (some ⟨g, 0, none⟩) n cap) n ((T ++ [t]).flatMap intCells)) (hn : n = T.length + 1) : w.ownsRow base e 1 (.slice (some ⟨g, 0, none⟩) T.length cap) T.length (T.flatMap intCells) ∧ w.cell? ⟨g, T.length, none⟩ = some (.int .i64 t) := by
  have hl : (T.flatMap intCells).length = T.length := by rw [flat_length intCells 1 (fun _ => rfl), Nat.mul_one]
  constructor
  · have := own_setCells (vs := []) (o := 0) (m := T.length) h (by simp) (by omega) (T.flatMap intCells) (by
      rw [List.flatMap_append, List.take_zero, List.nil_append, List.nil_append, Nat.mul_one, List.length_nil, Nat.add_zero, List.drop_zero, List.take_append_of_le_length (by omega), List.take_of_length_le (by omega)])
    exact this
  · have h1 := h.cellAt T.length (by omega)
    rw [List.flatMap_append, List.getElem?_append_right (by omega), hl, Nat.sub_self] at h1
    exact h1
set_option maxRecDepth 100000 in
set_option maxHeartbeats 4000000 in
theorem look_calls (v : Value) (l : List Mac) (hok : MacsOk l) (w : World) (h : rpMac.SL w w.heap.size l v) (hS : Shapes w) (R : Ending → World → Prop)
    (hR : ∀ w' p vl vr vm, Below w.heap.size w w' → w.heap.size ≤ p → w'.heap[p]? = some (.cells #[v, vl, vr, vm] 169 (0, 0)) → rpInt.slice.SL w' w'.heap.size (liveL l) vl → rpBool.SL w' w'.heap.size (reachW l) vr → rpBool.SL w' w'.heap.size (markL l) vm →
      R (.returned (.pointer (some ⟨p, 0, none⟩))) w') :
    Calls Tryd.prog 94 #[v] w R := by
  have h0 := hS.1
  have hfew := hok.few
  have hpos := hok.some_
  obtain ⟨A, c, rfl, hmx, hcap, hs⟩ := h.cases_
  have HS := Lib.hid hS
  have HR := Lib.hid hR
  have Hs := Lib.hid hs
  have hmk := fun W => make_bools2 W l.length hfew
  clear hS hR hs h
  go_enter Tryd.func94, Tryd.ntmps94
  go_upto_region 1 with (fail)
  go_cut [3] (fun s3 wx => ∃ p gr gm, s3 = .pointer (some ⟨p, 0, none⟩) ∧ gr ≠ gm ∧ w.heap.size ≤ gr ∧ w.heap.size ≤ gm ∧ w.heap.size ≤ p ∧ Hid (wx.heap[p]? = some (.cells #[.slice A l.length c, .slice none 0 0, .slice (some ⟨gr, 0, none⟩) l.length l.length, .slice (some ⟨gm, 0, none⟩) l.length l.length] 169 (0, 0))) ∧ Hid (wx.heap[gr]? = some (.cells (boolsA (List.replicate l.length false)) 4 (0, 0))) ∧ Hid (wx.heap[gm]? = some (.cells (boolsA (List.replicate l.length false)) 4 (0, 0))) ∧ Hid (Below w.heap.size w wx))
  case first =>
    go_region_law (fail)
    all_goals
      go_wp2
      go_meet
    · exact ⟨_, w.heap.size, w.heap.size + 1, rfl, by omega, by omega, by omega, by omega, Lib.hid (heap_new (by simp)), Lib.hid (blk_alloc (blk_alloc (heap_new rfl) _) _), Lib.hid (blk_alloc (heap_new (by simp)) _), Lib.hid bl0⟩
    · exact ⟨_, w.heap.size + 1, w.heap.size, rfl, by omega, by omega, by omega, by omega, Lib.hid (heap_new (by simp)), Lib.hid (blk_alloc (heap_new (by simp)) _), Lib.hid (blk_alloc (blk_alloc (heap_new rfl) _) _), Lib.hid bl0⟩
  case rest =>
    obtain ⟨p, gr, gm, rfl, hne, hgr, hgm, hp, HP, HGr, HGm, HB⟩ := hcut
    go_wp2_with fail
    refine Live_calls _ l hok _ (Hs.out.up HB.out HB.out.size) (HS.out.up HB.out h0) _ ?_
    intro w2 vl hb2 hvl
    obtain ⟨A2, c2, rfl, _, _, hvl⟩ := hvl.cases_
    obtain ⟨nL, hnL⟩ : ∃ nL, (liveL l).length = nL := ⟨_, rfl⟩
    rw [hnL] at hvl ⊢
    clear hnL
    have hP2 := (hb2.block _ (blk_lt HP.out)).trans HP.out
    have hL0 : LkW w (w2.setCell ⟨p, 1, none⟩ (.slice A2 nL c2)) l (.slice A l.length c) (.slice A2 nL c2) p gr gm wc.heap.size (List.replicate l.length false) (List.replicate l.length false) := by
      have t1 := blk_lt HP.out
      have t2 := blk_lt HGr.out
      have t3 := blk_lt HGm.out
      have n1 : p ≠ gr := fun e => by have := HP.out; rw [e, HGr.out] at this; injection this with this; injection this with _ h2; revert h2; decide
      have n2 : p ≠ gm := fun e => by have := HP.out; rw [e, HGm.out] at this; injection this with this; injection this with _ h2; revert h2; decide
      refine ⟨?_, blk_other ((hb2.block _ t2).trans HGr.out) (Ne.symm n1) _, blk_other ((hb2.block _ t3).trans HGm.out) (Ne.symm n2) _, (HB.out.trans (hb2.mono HB.out.size)).setCell (p := ⟨p, 1, none⟩) hp _, (hvl.setCell ⟨p, 1, none⟩ t1 _).more (Nat.le_refl _) (by simp [World.setCell]), ⟨t1, t2, t3⟩, ⟨hp, hgr, hgm⟩, n1, n2, hne⟩
      rw [block_set hP2]
      rfl
    have q1 : w2.cell? ⟨p, 1, none⟩ = some (.slice none 0 0) := by rw [blk_cell' hP2]; rfl
    have f1 : w2.frozen? ⟨p, 1, none⟩ = false := by simp [World.frozen?, hP2]
    have hlp : p < w2.heap.size := blk_lt hP2
    have HL0 := Lib.hid hL0
    obtain ⟨W3, hW3⟩ : ∃ W3, W3 = w2.setCell ⟨p, 1, none⟩ (.slice A2 nL c2) := ⟨_, rfl⟩
    rw [← hW3] at HL0
    have HW3 := Lib.hid hW3.symm
    clear hb2 hvl hP2 hL0 HP HGr HGm HB hW3
    go_upto_region 3 with fail
    rw [HW3.out]
    clear q1 f1 hlp HW3
    go_wp2_with fail
    go_loopg [27] l.length (fun gh s27 wr => ∃ k : Nat, k ≤ l.length ∧ gh = l.length - k ∧ s27 = .int .i64 (k : Int) ∧ Hid (LkW w wr l (.slice A l.length c) (.slice A2 nL c2) p gr gm wc.heap.size (List.replicate l.length false) (markTo l k)))
    case atStart => exact ⟨0, Nat.zero_le _, rfl, rfl, Lib.hid (by rw [markTo_first]; exact HL0.out)⟩
    case round =>
      obtain ⟨k, hk, rfl, rfl, HL⟩ := hrel
      by_cases hlt : k < l.length
      · have C := HL.out.cells
        obtain ⟨b6, o6, m, rfl, hbm, e, c0, c1, c2', c3, c4⟩ := Hs.out.mac_at hlt
        have em : atL l k = m := by
          rw [atL_get hlt]
          rw [List.getElem?_eq_getElem hlt] at e
          exact Option.some.inj e
        have hst := markTo_step hok hlt
        have hm := hok.at_ hlt
        rw [em] at hst hm
        have hbel := HL.out.bel
        have d0 := (hbel.cell hbm).trans c0
        have d1 := (hbel.cell (p := ⟨b6, o6 + k * 5 + 1, none⟩) hbm).trans c1
        have d2 := (hbel.cell (p := ⟨b6, o6 + k * 5 + 2, none⟩) hbm).trans c2'
        have d3 := (hbel.cell (p := ⟨b6, o6 + k * 5 + 3, none⟩) hbm).trans c3
        have d4 := (hbel.cell (p := ⟨b6, o6 + k * 5 + 4, none⟩) hbm).trans c4
        have i0 : (0 : Int) ≤ (k : Int) := by omega
        have i1 : (k : Int) < (l.length : Int) := by omega
        have hbr : b6 < wr.heap.size := Nat.lt_of_lt_of_le hbm hbel.size
        have Hm := Lib.hid hm
        have Hst := Lib.hid hst
        clear c0 c1 c2' c3 c4 e em hbel C hst hm
        go_wp2_with fail
        refine jumps_calls m _ _ (fun w5 hb5 => ?_)
        have HL5 := Lib.hid (HL.out.below ((by exact bl0 : Below wr.heap.size wr _).trans (hb5.mono (by simp))))
        obtain ⟨hc5, hf5⟩ := bcell hb5
        have p4 : w5.cell? ⟨wr.heap.size, 4, none⟩ = some (.int .i64 m.n) := by rw [hc5 _ _ (by simp)]; simp
        have hz5 : wr.heap.size < w5.heap.size := by have := hb5.size; simp at this; omega
        clear hb5 hc5 hf5 d0 d1 d2 d3 d4
        cases hj : jumpsM m
        · have Hst2 := Lib.hid (show markTo l (k + 1) = markTo l k by rw [Hst.out, hj]; rfl)
          clear hj Hst
          go_wp2
          go_roundg (l.length - (k + 1))
          case measure => omega
          case rel => exact ⟨k + 1, hlt, rfl, by go_num, Lib.hid (by rw [Hst2.out]; exact HL5.out)⟩
        · have Hst2 := Lib.hid (show markTo l (k + 1) = (markTo l k).set m.n.toNat true by rw [Hst.out, hj]; rfl)
          have hop : 37 ≤ m.op ∧ m.op ≤ 43 := by unfold jumpsM at hj; simpa using hj
          have hjn := Hm.out.jump hop.1 hop.2
          obtain ⟨y, hy⟩ : ∃ y : Nat, m.n = (y : Int) := ⟨m.n.toNat, by omega⟩
          rw [hy] at p4 hjn Hst2
          rw [Int.toNat_natCast] at Hst2
          have C := HL5.out.cells
          have c3 := C.c3
          have hym : y < (markTo l k).length := by rw [markTo_len]; omega
          have cm := C.m y hym
          have fm := C.fm y
          have lm := C.lm
          have lp := C.lp
          have y0 : (0 : Int) ≤ (y : Int) := by omega
          have y1 : (y : Int) < (l.length : Int) := by omega
          clear C hop hjn hj Hst hy hym
          go_wp2_with fail
          go_region_law (fail)
          all_goals
            go_wp2
            go_roundg (l.length - (k + 1))
            case measure => omega
            case rel => exact ⟨k + 1, hlt, rfl, by go_num, Lib.hid (by rw [Hst2.out]; exact (HL5.out.setM y true).below (Below.refl _ _).drew)⟩
      · obtain rfl : k = l.length := by omega
        rw [markTo_end] at HL
        have hQ0 : LkQ w wr wr l (.slice A l.length c) (.slice A2 nL c2) p gr gm (List.replicate l.length false) := ⟨HL.out.hp, HL.out.hr, HL.out.bel, fun _ _ _ => rfl, ⟨blk_lt HL.out.hp, blk_lt HL.out.hr⟩, HL.out.ge.2.1, HL.out.ne.1, HL.out.bel.size, Nat.le_refl _⟩
        have HQ0 := Lib.hid hQ0
        obtain ⟨i0, hi0, hz0, hz1, hz2⟩ := info_parts info_int3
        clear hQ0
        generalize wr = W4 at *
        go_wp2_with fail
        go_loopg [6] (3 * leftR (List.replicate l.length false) + 1) (fun gh s6 wr => ∃ (S : List Bool) (T : List Int), gh = 3 * leftR S + T.length ∧ 3 * leftR S + T.length ≤ 15001 ∧ Hid (GoodR l S T) ∧ wr.ownsRow W4.heap.size 3 1 s6 T.length (T.flatMap intCells) ∧ Hid (LkQ w W4 wr l (.slice A l.length c) (.slice A2 nL c2) p gr gm S))
        case atStart => exact ⟨_, [0], rfl, by have := List.countP_le_length (p := fun b => !b) (l := List.replicate l.length false); rw [List.length_replicate] at this; simp only [leftR, List.length_singleton]; omega, Lib.hid (GoodR.begin hok), ⟨rfl, .inr ⟨W4.heap.size, 1, #[.int .i64 0], rfl, Nat.le_refl _, heap_alloc_new _ _, Nat.le_refl _, by decide, rfl, rfl⟩⟩, Lib.hid (HQ0.out.below (by exact bl0))⟩
        case round =>
          obtain ⟨S, T, rfl, hfewT, HG, hown, HQ⟩ := hrel
          rcases List.eq_nil_or_concat T with rfl | ⟨T', t, rfl⟩
          · obtain ⟨A6, c6, rfl⟩ := own_slice hown
            have hS := HG.out.done hok
            have hlen : S.length = l.length := HG.out.len
            have hlv : rpInt.slice.SL wr wr.heap.size (liveL l) (.slice A2 nL c2) := ((HL.out.live.keep fun k h1 h2 => HQ.out.mid k (by have := HL.out.lt.2.1; omega) h2).more (Nat.le_refl _) HQ.out.sz).SL
            have hrv : rpBool.SL wr wr.heap.size (reachW l) (.slice (some ⟨gr, 0, none⟩) l.length l.length) := by
              have := bools_blk HQ.out.hr (Nat.le_refl _) (by rw [hlen]; unfold maxLen; omega)
              rwa [hlen, hS] at this
            have hmv : rpBool.SL wr wr.heap.size (markL l) (.slice (some ⟨gm, 0, none⟩) l.length l.length) := by
              have hlm : (markL l).length = l.length := by simp [markL]
              have := bools_blk (((HQ.out.mid gm (Ne.symm HL.out.ne.2.2) (blk_lt HL.out.hm))).trans HL.out.hm) (Nat.le_refl _) (by rw [hlm]; unfold maxLen; omega)
              rwa [hlm] at this
            have H1 := Lib.hid (HR.out wr p _ _ _ HQ.out.bel hp HQ.out.hp hlv hrv hmv)
            clear hlv hrv hmv hS hlen hown
            go_wp2
            exact H1.out
          · rw [List.concat_eq_append] at *
            have hTl : (T' ++ [t]).length = T'.length + 1 := by simp
            rw [hTl] at hown hfewT
            obtain ⟨g, cap, rfl, hg1, hg2, hcap1, hcap2⟩ := own_some hown (by omega)
            obtain ⟨hown', ht⟩ := own_prefix hown rfl
            have hst := HG.out.stack t (by simp)
            have hgl := HG.out.len
            obtain ⟨y, rfl⟩ : ∃ y : Nat, t = (y : Int) := ⟨t.toNat, by omega⟩
            have hyl : y < l.length := by omega
            have hT : T'.length ≤ 9223372036854775807 := by omega
            have y0 : (0 : Int) ≤ (y : Int) := by omega
            have y1 : (y : Int) < (l.length : Int) := by omega
            have y2 : decide (l.length ≤ y) = false := by simp; omega
            have z0 : (0 : Int) ≤ (T'.length : Int) := by omega
            have q0 : wr.cell? ⟨p, 0, none⟩ = some (.slice A l.length c) := by rw [blk_cell' HQ.out.hp]; rfl
            have q2 : wr.cell? ⟨p, 2, none⟩ = some (.slice (some ⟨gr, 0, none⟩) l.length l.length) := by rw [blk_cell' HQ.out.hp]; rfl
            have q3 : wr.cell? ⟨gr, y, none⟩ = some (.bool (atB S y)) := by rw [blk_cell' HQ.out.hr]; exact boolsA_get (by omega)
            have f3 : wr.frozen? ⟨gr, y, none⟩ = false := by simp [World.frozen?, HQ.out.hr]
            have l1 : p < wr.heap.size := blk_lt HQ.out.hp
            have l2 : gr < wr.heap.size := blk_lt HQ.out.hr
            generalize hn : T'.length = n at *
            have Hn := Lib.hid hn
            have Ho := Lib.hid hown'
            have HTl := Lib.hid hTl
            clear hown' hown hst hgl hn hTl
            cases hs : atB S y
            · rw [hs] at q3
              have hnew := Lib.hid (HG.out.new hok)
              have hrs := Lib.hid (leftR_set (S := S) (i := y) (by rw [HG.out.len]; exact hyl) hs)
              go_wp2_with fail
              have HQs := Lib.hid (HQ.out.setR y true)
              have Hos := Lib.hid (own_setCell_other (p := ⟨gr, y, none⟩) Ho.out (by intro e; have e' : g = gr := Option.some.inj e; have := HQ.out.lt.2; omega) (.bool true))
              refine Next_calls _ l y hyl hok _ (Hs.out.up HQs.out.bel HQs.out.bel.size) (HS.out.up HQs.out.bel h0) _ ?_
              intro w5 v5 hb5 hks hnil
              have hkl := nextL_len l y
              have HQ5 := Lib.hid (HQs.out.below (hb5.mono HQs.out.sz))
              have Ho5 := Lib.hid (own_below Hos.out hb5)
              rw [Int.toNat_natCast] at hnew
              have hsz5 : W4.heap.size ≤ w5.heap.size := HQ5.out.sz
              clear hb5 q0 q2 q3 f3 hs
              generalize nextL l y = ks at *
              by_cases hk0 : ks = []
              · subst hk0
                obtain rfl := hnil rfl
                rw [List.append_nil] at hnew
                clear hks hnil
                go_wp2_with (at_builtin; refine wpList_append_own_none rfl _ _ 22 rfl W4.heap.size 3 i0 1 Tryd.underlying22 hi0 (.slice (some ⟨g, 0, none⟩) n cap) n (T'.flatMap intCells) rfl Ho5.out rfl ?_)
                go_wp2
                go_roundg (3 * leftR (S.set y true) + n)
                case measure => rw [HTl.out]; have := hrs.out; omega
                case rel => exact ⟨S.set y true, T', by rw [Hn.out], by rw [Hn.out]; have := hrs.out; omega, hnew, by rw [Hn.out]; exact Ho5.out, HQ5⟩
              · obtain ⟨A5, c5, rfl, _, hc5, hks⟩ := hks.cases_
                have hkpos : 0 < ks.length := List.length_pos_iff.2 hk0
                have hA5 : ∃ a, A5 = some a := by
                  obtain ⟨b, off, _, hA, _⟩ := hks.at_ (List.getElem?_eq_getElem hkpos)
                  exact ⟨_, hA⟩
                obtain ⟨a5, rfl⟩ := hA5
                have hnews : ∀ j u, (ks.flatMap intCells)[j]? = some u → w5.cell? (a5.add j) = some u := hks.news (fun _ _ _ _ h => h) (fun _ => rfl) (by decide)
                have Hnews := Lib.hid hnews
                have hfl := Lib.hid (flat_length intCells 1 (fun _ => rfl) ks)
                obtain ⟨N5, hN5⟩ : ∃ N5, ks.length = N5 := ⟨_, rfl⟩
                have HN5 := Lib.hid hN5
                rw [hN5] at hkpos hkl hfl ⊢
                clear hks hnil hnews hk0 hN5 hc5
                go_wp2_with (at_builtin; refine wpList_append_own _ rfl _ _ 22 rfl W4.heap.size 3 i0 _ 1 8 Tryd.underlying22 hi0 hz0 hz1 hz2 rfl (by decide) (.slice (some ⟨g, 0, none⟩) n cap) n (T'.flatMap intCells) rfl Ho5.out a5 N5 c5 (ks.flatMap intCells) rfl hfl.out Hnews.out (one_int ks) (by unfold maxLen; omega) (by omega) (by omega) ?_)
                intro v6 w6 hown6 hg6 _
                have HQ6 := Lib.hid (HQ5.out.below (grown_below (g := g) (by simpa [Value.ownBlock] using hg6) hg1 hsz5))
                have Ho6 := Lib.hid hown6
                clear hown6 hg6
                go_wp2
                go_roundg (3 * leftR (S.set y true) + (n + N5))
                case measure => rw [HTl.out]; have := hrs.out; omega
                case rel => exact ⟨S.set y true, T' ++ ks, by rw [List.length_append, Hn.out, HN5.out], by rw [List.length_append, Hn.out, HN5.out]; have := hrs.out; omega, hnew, by rw [List.length_append, Hn.out, HN5.out, List.flatMap_append]; exact Ho6.out, HQ6⟩
            · rw [hs] at q3
              have hhad := Lib.hid (HG.out.had (by rw [Int.toNat_natCast]; exact hs))
              clear hs
              go_wp2
              go_roundg (3 * leftR S + n)
              case measure => rw [HTl.out]; omega
              case rel => exact ⟨S, T', by rw [Hn.out], by rw [Hn.out]; omega, hhad, by rw [Hn.out]; exact Ho.out, HQ⟩
end Go.Proofs.YtemakpjickbmnaaDoor

/- Package peep: windows; what is live behind an instruction; what stands beside one. -/
namespace Go.Proofs.YtemakpjickbmnaaDoor
open Go.RowKit
set_option linter.unusedSimpArgs false
set_option linter.unusedVariables false

/-- A window on code, for reading. -/
structure Win (w : World) (l : List Mac) (p : Nat) (v vl vr vm : Value) : Prop where
  hp : w.heap[p]? = some (.cells #[v, vl, vr, vm] 169 (0, 0))
  code : rpMac.SL w w.heap.size l v
  live : rpInt.slice.SL w w.heap.size (liveL l) vl
  reach : rpBool.SL w w.heap.size (reachW l) vr
  mark : rpBool.SL w w.heap.size (markL l) vm
  ok : MacsOk l
  sh : Shapes w
theorem Win.below {w w' : World} {l : List Mac} {p : Nat} {v vl vr vm : Value} (h : Win w l p v vl vr vm) (hb : Below w.heap.size w w') : Win w' l p v vl vr vm where
  hp := (hb.block _ (blk_lt h.hp)).trans h.hp
  code := h.code.up hb hb.size
  live := h.live.up hb hb.size
  reach := h.reach.up hb hb.size
  mark := h.mark.up hb hb.size
  ok := h.ok
  sh := h.sh.up hb h.sh.1
/-- What the window's variable and an instruction hold. -/
structure WinC (w : World) (p : Nat) (v vl vr vm : Value) : Prop where
  c0 : w.cell? ⟨p, 0, none⟩ = some v
  c1 : w.cell? ⟨p, 1, none⟩ = some vl
  c2 : w.cell? ⟨p, 2, none⟩ = some vr
  c3 : w.cell? ⟨p, 3, none⟩ = some vm
  f0 : ∀ j, w.frozen? ⟨p, j, none⟩ = false
  lp : p < w.heap.size
theorem Win.cells {w : World} {l : List Mac} {p : Nat} {v vl vr vm : Value} (h : Win w l p v vl vr vm) : WinC w p v vl vr vm where
  c0 := by rw [blk_cell' h.hp]; rfl
  c1 := by rw [blk_cell' h.hp]; rfl
  c2 := by rw [blk_cell' h.hp]; rfl
  c3 := by rw [blk_cell' h.hp]; rfl
  f0 := fun j => by simp [World.frozen?, h.hp]
  lp := blk_lt h.hp
theorem Rp.SL.bool_at {w : World} {B : Nat} {xs : List Bool} {A : Option Addr} {n c k : Nat} (h : rpBool.SL w B xs (.slice A n c)) (hk : k < xs.length) : ∃ b off, A = some ⟨b, off, none⟩ ∧ b < B ∧ w.cell? ⟨b, off + k, none⟩ = some (.bool (atB xs k)) := by
  obtain ⟨b, off, cs, hA, hb, hr, hcs⟩ := h.at_ (List.getElem?_eq_getElem hk)
  refine ⟨b, off, hA, hb, ?_⟩
  cases hr
  have := hcs 0 _ rfl
  simpa [rpBool, atB, List.getD_eq_getElem?_getD, hk] using this
theorem Rp.SL.slice_at {α : Type} {r : Rp α} {w : World} {B : Nat} {xs : List (List α)} {A : Option Addr} {n c k : Nat} (h : r.slice.SL w B xs (.slice A n c)) (hk : k < xs.length) : ∃ b off u, A = some ⟨b, off, none⟩ ∧ b < B ∧ w.cell? ⟨b, off + k, none⟩ = some u ∧ r.SL w B xs[k] u := by
  obtain ⟨b, off, cs, hA, hb, ⟨u, rfl, hr⟩, hcs⟩ := h.at_ (List.getElem?_eq_getElem hk)
  refine ⟨b, off, u, hA, hb, ?_, hr⟩
  have := hcs 0 _ rfl
  simpa [Rp.slice] using this
/-- What a function that answers a bool of a number, with what it captures, has to do in worlds behind w. -/
def AsksI (f : FuncId) (caps : List Value) (p : Int → Bool) (xs : List Int) (w : World) : Prop :=
  Enters Tryd.prog f ∧ ∀ x ∈ xs, ∀ (W : World) (R : Ending → World → Prop), Below w.heap.size w W → (∀ W', Below W.heap.size W W' → R (.returned (.bool (p x))) W') → Calls Tryd.prog f (.int .i64 x :: caps).toArray W R
theorem any_take_snoc {p : Int → Bool} {xs : List Int} {k : Nat} (h : k < xs.length) : (xs.take (k + 1)).any p = ((xs.take k).any p || p xs[k]) := by
  rw [take_snoc' h, List.any_append]
  simp
set_option maxHeartbeats 400000 in
theorem IndexFuncI_calls (f : FuncId) (c1 c2 : Value) (p : Int → Bool) (v : Value) (xs : List Int) (w : World) (h : rpInt.SL w w.heap.size xs v) (hf : AsksI f [c1, c2] p xs w) (R : Ending → World → Prop)
    (hR : ∀ w' (r : Int), Below w.heap.size w w' → decide (0 ≤ r) = xs.any p → R (.returned (.int .i64 r)) w') :
    Calls Tryd.prog 159 #[v, .func (.func f) #[] #[c1, c2]] w R := by
  obtain ⟨hen, hf⟩ := hf
  have hcf := hen.run
  obtain ⟨A, n, rfl, hm, _, h⟩ := h.cases_
  have Hs := Lib.hid h
  have Hf := Lib.hid hf
  have HR := Lib.hid hR
  clear h hf hR
  go_enter Tryd.func159, Tryd.ntmps159
  go_wp2
  go_loopg [8] xs.length (fun gh i wr => ∃ k : Nat, k ≤ xs.length ∧ gh = xs.length - k ∧ i = .int .i64 k ∧ (xs.take k).any p = false ∧ Below w.heap.size w wr)
  case atStart => exact ⟨0, Nat.zero_le _, rfl, rfl, rfl, Below.refl _ _⟩
  case round =>
    obtain ⟨k, hk, rfl, rfl, ht, hbel⟩ := hrel
    have Ht := Lib.hid ht
    have Hb := Lib.hid hbel
    have hz := hbel.size
    clear ht
    by_cases hlt : k < xs.length
    · obtain ⟨b, off, rfl, hb, q0⟩ := Hs.out.int_at hlt
      have p0 := (hbel.cell (p := ⟨b, off + k, none⟩) hb).trans q0
      have hgd : xs.getD k 0 = xs[k] := by rw [List.getD_eq_getElem?_getD, List.getElem?_eq_getElem hlt]; rfl
      rw [hgd] at p0
      have Hst := Lib.hid (any_take_snoc (p := p) hlt)
      have Hx := Lib.hid (Hf.out xs[k] (List.getElem_mem hlt))
      generalize xs[k] = x at *
      have i1 : (k : Int) < (xs.length : Int) := by omega
      have i2 : (0 : Int) ≤ (k : Int) := by omega
      clear q0 hgd hbel
      go_wp2_with fail
      refine Hx.out _ _ Hb.out ?_
      intro w1 hb1
      have Hb1 := Lib.hid (Hb.out.trans (hb1.mono hz))
      clear hb1
      cases hp : p x
      · have Hst2 := Lib.hid (show (xs.take (k + 1)).any p = false by rw [Hst.out, Ht.out, hp]; rfl)
        clear hp
        go_wp2
        go_roundg (xs.length - (k + 1))
        case measure => omega
        case rel => exact ⟨k + 1, by omega, rfl, by go_num, Hst2.out, Hb1.out⟩
      · have hany : xs.any p = true := by
          have h1 : (xs.take (k + 1)).any p = true := by rw [Hst.out, hp]; simp
          rw [List.any_eq_true] at h1 ⊢
          obtain ⟨y, hy, h2⟩ := h1
          exact ⟨y, List.mem_of_mem_take hy, h2⟩
        have H1 := Lib.hid (HR.out w1 (k : Int) Hb1.out (by rw [hany]; simp))
        clear hany hp
        go_wp2
        exact H1.out
    · obtain rfl : k = xs.length := by omega
      rw [List.take_length] at Ht
      have H1 := Lib.hid (HR.out wr (-1) Hb.out (by rw [Ht.out]; rfl))
      go_wp2
      exact H1.out
set_option maxHeartbeats 400000 in
theorem ContainsFuncI_calls (f : FuncId) (c1 c2 : Value) (p : Int → Bool) (v : Value) (xs : List Int) (w : World) (h : rpInt.SL w w.heap.size xs v) (hf : AsksI f [c1, c2] p xs w) (R : Ending → World → Prop)
    (hR : ∀ w', Below w.heap.size w w' → R (.returned (.bool (xs.any p))) w') :
    Calls Tryd.prog 152 #[v, .func (.func f) #[] #[c1, c2]] w R := by
  have HR := Lib.hid hR
  clear hR
  go_enter Tryd.func152, Tryd.ntmps152
  go_wp2_with fail
  refine IndexFuncI_calls f c1 c2 p v xs _ h hf _ (fun w1 r hb1 hr => ?_)
  have Hr := Lib.hid hr
  have H1 := Lib.hid (HR.out w1 hb1)
  clear hr hb1 h hf
  go_wp2
  rw [Hr.out]
  exact H1.out

theorem liveRow_has (l : List Mac) (i r : Nat) (hr : r < 16) : decide ((r : Int) ∈ liveRow l i) = liveB l i r := by
  unfold liveRow
  rw [Bool.eq_iff_iff, decide_eq_true_eq, List.mem_map]
  constructor
  · rintro ⟨x, hx, e⟩
    have : x = r := Int.ofNat.inj e
    subst this
    exact (List.mem_filter.1 hx).2
  · intro h
    exact ⟨r, List.mem_filter.2 ⟨List.mem_range.2 hr, h⟩, rfl⟩
theorem liveL_at {l : List Mac} {k : Nat} (h : k < (liveL l).length) : (liveL l)[k] = liveRow l k := by
  have : (liveL l)[k]? = some (liveRow l k) := by
    unfold liveL liveTo at h ⊢
    rw [List.getElem?_map, List.getElem?_range (by simpa using h)]
    rfl
  rw [List.getElem?_eq_getElem h] at this
  exact Option.some.inj this
theorem beh_any {l : List Mac} (hok : MacsOk l) {i : Nat} (hi : i < l.length) (r : Nat) : (nextL l i).any (fun k => liveB l k.toNat r) = behB l i r := by
  rw [Bool.eq_iff_iff, List.any_eq_true, behB_iff]
  constructor
  · rintro ⟨k, hk, h⟩
    have hb := nextL_lt hok hi k hk
    refine ⟨k.toNat, (nextL_iff hi).1 (by rwa [Int.toNat_of_nonneg hb.1]), liveB_iff.1 h⟩
  · rintro ⟨k, hk, h⟩
    exact ⟨(k : Int), (nextL_iff hi).2 hk, by rw [Int.toNat_natCast]; exact liveB_iff.2 h⟩
theorem Contains_same (v : Value) (xs : List Int) (t : Int) (w : World) (h : rpInt.SL w w.heap.size xs v) : Calls Tryd.prog 92 #[v, .int .i64 t] w (fun e w' => e = .returned (.bool (decide (t ∈ xs))) ∧ w' = w) := Contains_calls v xs t w h _ ⟨rfl, rfl⟩
set_option maxHeartbeats 1000000 in
theorem beh1_calls {w : World} {l : List Mac} {p : Nat} {v vl vr vm : Value} (h : Win w l p v vl vr vm) (k r g1 g2 : Nat) (hk : k < l.length) (hr : r < 16) (h1 : w.cell? ⟨g1, 0, none⟩ = some (.pointer (some ⟨p, 0, none⟩))) (h2 : w.cell? ⟨g2, 0, none⟩ = some (.int .i64 (r : Int))) (R : Ending → World → Prop)
    (hR : ∀ w', Below w.heap.size w w' → R (.returned (.bool (liveB l k r))) w') :
    Calls Tryd.prog 153 #[.int .i64 (k : Int), .pointer (some ⟨g1, 0, none⟩), .pointer (some ⟨g2, 0, none⟩)] w R := by
  have C := h.cells
  have c0 := C.c0
  have c1 := C.c1
  have lp := C.lp
  obtain ⟨A, c, rfl, hmx, hcap, hs⟩ := h.code.cases_
  obtain ⟨A2, c2, rfl, hmx2, hcap2, hs2⟩ := h.live.cases_
  have hll : (liveL l).length = l.length := liveTo_len l l.length
  obtain ⟨b, off, u, rfl, hb, q, hu⟩ := hs2.slice_at (k := k) (by rw [hll]; exact hk)
  rw [liveL_at] at hu
  obtain ⟨A3, c3, rfl, hmx3, hcap3, hs3⟩ := hu.cases_
  have Hh := Lib.hid (liveRow_has l k r hr)
  generalize hN : (liveL l).length = N at *
  subst hll
  generalize liveRow l k = L at *
  have Hs3 := Lib.hid hs3
  have HR := Lib.hid hR
  have hl1 := World.block_lt_of_cell? w _ h1
  have hl2 := World.block_lt_of_cell? w _ h2
  have i0 : (0 : Int) ≤ (k : Int) := by omega
  have i1 : (k : Int) < (l.length : Int) := by omega
  have i2 : decide (k < l.length) = true := by simpa using hk
  clear hR hs hs2 hs3 hu C h
  go_enter Tryd.func153, Tryd.ntmps153
  go_wp2
  go_quiet ((go_at_call 92; exact Calls.quiet_of_same (Contains_same _ L (r : Int) _ (Hs3.out.up (below_drewN (Below.refl _ _) _) (Nat.le_refl _)))))
  go_wp2
  rw [Hh.out]
  exact HR.out _ bl0
set_option maxHeartbeats 1000000 in
theorem behind_calls {w : World} {l : List Mac} {p : Nat} {v vl vr vm : Value} (h : Win w l p v vl vr vm) (i r : Nat) (hi : i < l.length) (hr : r < 16) (R : Ending → World → Prop)
    (hR : ∀ w', Below w.heap.size w w' → R (.returned (.bool (behB l i r))) w') :
    Calls Tryd.prog 129 #[.pointer (some ⟨p, 0, none⟩), .int .i64 (i : Int), .int .i64 (r : Int)] w R := by
  have C := h.cells
  have c0 := C.c0
  have lp := C.lp
  have hok := h.ok
  have H := Lib.hid h
  have HR := Lib.hid hR
  have Hany := Lib.hid (beh_any hok hi r)
  have hlt := nextL_lt hok hi
  clear hR C h
  go_enter Tryd.func129, Tryd.ntmps129
  go_wp2_with fail
  refine Next_calls _ l i hi hok _ (H.out.below (by exact bl0)).code (H.out.below (by exact bl0)).sh _ ?_
  intro w5 v5 hb5 hks _
  have Hlt := Lib.hid hlt
  clear hlt
  generalize nextL l i = ks at *
  have Hks := Lib.hid hks
  have hb5' : Below w.heap.size w w5 := (by exact bl0 : Below w.heap.size w ((w.alloc (Obj.cells #[.pointer (some ⟨p, 0, none⟩)] 163)).alloc (Obj.cells #[.int .i64 (r : Int)] 3))).trans (hb5.mono (by simp; omega))
  have g1 : w5.cell? ⟨w.heap.size, 0, none⟩ = some (.pointer (some ⟨p, 0, none⟩)) := by rw [hb5.cell (by simp; omega)]; simp
  have g2 : w5.cell? ⟨w.heap.size + 1, 0, none⟩ = some (.int .i64 (r : Int)) := by rw [hb5.cell (by simp)]; simp
  have H5 := Lib.hid (H.out.below hb5')
  have Hb5 := Lib.hid hb5'
  have hz5 := hb5'.size
  have G1 := Lib.hid g1
  have G2 := Lib.hid g2
  have hen : Enters Tryd.prog 153 := ⟨_, Tryd.func153, by kernel_rfl, rfl⟩
  have hl1 := World.block_lt_of_cell? w5 _ g1
  have hl2 := World.block_lt_of_cell? w5 _ g2
  clear hb5 hks hb5' g1 g2
  go_wp2_with fail
  refine ContainsFuncI_calls 153 (.pointer (some ⟨w.heap.size, 0, none⟩)) (.pointer (some ⟨w.heap.size + 1, 0, none⟩)) (fun k => liveB l k.toNat r) _ ks _ Hks.out ⟨hen, fun x hx W R' hbW hR' => ?_⟩ _ (fun w6 hb6 => ?_)
  · have hx0 := Hlt.out x hx
    obtain ⟨y, rfl⟩ : ∃ y : Nat, x = (y : Int) := ⟨x.toNat, by omega⟩
    simp only [Int.toNat_natCast] at hR'
    exact beh1_calls (H5.out.below hbW) y r w.heap.size (w.heap.size + 1) (by omega) hr ((hbW.cell hl1).trans G1.out) ((hbW.cell hl2).trans G2.out) R' hR'
  · have H1 := Lib.hid (HR.out w6 (Hb5.out.trans (hb6.mono hz5)))
    rw [Hany.out] 
    clear hb6
    go_wp2
    exact H1.out
end Go.Proofs.YtemakpjickbmnaaDoor
