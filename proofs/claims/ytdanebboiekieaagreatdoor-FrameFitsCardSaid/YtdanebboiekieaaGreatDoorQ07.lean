/- A row of rows of ints of the call's own: made, pushed onto. slices.Sort at []int: the library's contract. core.Vals: its iterator's contract. -/
import Derived.Test.YtdanebboiekieaaGreatDoorQ01
import Derived.Test.YtdanebboiekieaaGreatDoorRows
import Derived.IntWalk
import Derived.Maps.AppendAt
import Derived.Test.YtdanebboiekieaaGreatDoorQ06
import Derived.Shelf.SortM.Plain
import Derived.Shelf.SortM.SortNone
import Derived.Sort.OwnSortedInts
import Derived.Outline
import Derived.RangeFuncNested
import Derived.RangeFuncBound
import Derived.RangeFuncCalls
import Derived.RangeFuncLeaves
import Derived.Shelf.Abstract
import Derived.Shelf.RegionOpen
import Derived.WalkKit
import Derived.OwnWalkIn
import Derived.TacticsInMore
import Derived.LoopNIn
import Derived.LoopIn
import Derived.Test.YtdanebboiekieaaGreatDoorQ03
namespace Go.Proofs.YtdanebboiekieaaGreatDoor
open Go.RowKit
set_option linter.unusedSimpArgs false
set_option linter.unusedVariables false

theorem ext_atI {S S' : List (List Int)} (h : S.length = S'.length) (he : ∀ i, i < S.length → atI S i = atI S' i) : S = S' := by
 apply List.ext_getElem h
 intro i h1 h2
 have := he i h1
 unfold atI at this
 rw [List.getD_eq_getElem?_getD, List.getD_eq_getElem?_getD, List.getElem?_eq_getElem h1, List.getElem?_eq_getElem h2] at this
 simpa using this
theorem info_ints2 : (Tryz.prog.info? 26).map (fun i => (i.zero, i.size, i.bytes)) = some (some (.slice none 0 0), 1, 24) := by kernel_rfl
theorem make_rows (W : World) (n : Nat) (hn : n ≤ 5000) : (Instr.makeSlice 87 (.int .i64 (n : Int)) (.int .i64 (n : Int))).run Tryz.prog W = .ok (.slice (some ⟨W.heap.size, 0, none⟩) n n) (W.alloc (.cells (List.replicate n (Value.slice none 0 0)).toArray 26)) := by
 obtain ⟨iB, hi, z0, z1, z2⟩ := info_parts info_ints2
 have h := run_make (P := Tryz.prog) W 87 26 iB _ Tryz.underlying87 hi z0 .i64 .i64 (n : Int) (n : Int) (by omega) (Int.le_refl _) (by rw [z2]; omega) (by omega)
 rw [z1] at h
 simp only [Int.toNat_natCast, Nat.mul_one] at h
 have e : madeCells (Value.slice none 0 0).cells n = (List.replicate n (Value.slice none 0 0)).toArray := by
  unfold madeCells
  apply Array.ext
  ·simp
  ·intro i h1 h2
   simp [Value.cells, Nat.mod_one]
 rw [e] at h
 exact h
theorem app_one {ops : Array Oper} {rest : List Oper} {o : Oper} {a : Act} {w : World} {Q : Exit → Act → World → Prop} (hgd : o.guard = none) (s x : Operand) (ho : o.op = .call { callee := .builtin .append, args := #[s, x], argTypes := #[26, 26] })
 {base : Nat} {v : Value} {xs : List Int} (hs : a.eval s = v) (hown : w.ownsRow base 3 1 v xs.length (xs.flatMap intCells)) (g : Nat) (y : Int) (hx : a.eval x = .slice (some ⟨g, 0, none⟩) 1 1) (hg : w.heap[g]? = some (.cells #[.int .i64 y] 3 (0, 0))) (hfew : xs.length ≤ 100) (hbase : base ≤ w.heap.size)
 (h : ∀ v' w', w'.ownsRow base 3 1 v' (xs ++ [y]).length ((xs ++ [y]).flatMap intCells) → w.grownBy w' v.ownBlock → (v'.ownBlock = v.ownBlock ∨ v'.ownBlock = some w.heap.size) → wpList Tryz.prog ops Q rest (a.put o.dst v') w') : wpList Tryz.prog ops Q (o :: rest) a w := by
 obtain ⟨i0, hi0, hz0, hz1, hz2⟩ := info_parts info_int3
 refine wpList_append_own_at w hgd s x 26 ho base 3 i0 _ 1 8 Tryz.underlying26 hi0 hz0 hz1 hz2 rfl (by decide) v xs.length (xs.flatMap intCells) hs hown ⟨g, 0, none⟩ 1 1 ([y].flatMap intCells) hx rfl (fun j u hj => ?_) (one_int [y]) (by unfold maxLen; omega) (by omega) hbase (fun v' w' h1 h2 _ h3 => h v' w' ?_ h2 h3)
 ·match j, hj with
  | 0, hj =>
    have e : u = .int .i64 y := by
     have : (some (Value.int .i64 y)) = some u := hj
     exact (Option.some.inj this).symm
    rw [e, Addr.add_lit]
    simp [World.cell?, hg]
  | j + 1, hj => simp [intCells] at hj
 ·rw [List.length_append, List.flatMap_append]
  exact h1
theorem Tab.not {w : World} {base : Nat} {V : List Value} {L : List (List Int)} (h : Tab w base V L) {i b : Nat} (hi : i < L.length) {A : Array Value} {T : TypeId} {fr : Nat × Nat} (hb : w.heap[b]? = some (.cells A T fr)) (hT : T ≠ 3) : some b ≠ (atT V i).ownBlock := by
 intro e
 rcases (h.own i hi).2 with ⟨hn, _⟩ | ⟨g', cap, cur, hv, _, hh, _⟩
 ·rw [hn] at e; cases e
 ·rw [hv] at e
  obtain rfl : b = g' := Option.some.inj e
  rw [hb] at hh
  injection hh with hh
  injection hh with _ h2
  exact hT h2
theorem Tab.SLF {w : World} {base g b : Nat} {V : List Value} {L : List (List Int)} {T : TypeId} (h : Tab w base V L) (hb : w.heap[g]? = some (.cells V.toArray T (0, 0))) (hg : b ≤ g) (hbase : b ≤ base) (hm : L.length ≤ maxLen) : rpInt.slice.SLF w b w.heap.size L (.slice (some ⟨g, 0, none⟩) L.length L.length) := by
 have h1 : Tab (only w fun k => decide (b ≤ k)) b V L := ⟨h.len, fun i hi => ownsRow_only (ownsRow_base (h.own i hi) hbase), h.apart⟩
 have h2 := h1.SL (g := g) (T := T) (by rw [only_heap _ _ _ (by simpa using hg)]; exact hb) hm
 rw [only_size] at h2
 exact h2
end Go.Proofs.YtdanebboiekieaaGreatDoor
namespace Go.Proofs.YtdanebboiekieaaGreatDoor
open Go.RowKit
set_option linter.unusedSimpArgs false
set_option linter.unusedVariables false
open Go.Sort Go.Shelf

def srtRen : Go.Shelf.Ren := ⟨fun | 5 => 99 | 7 => 130 | 8 => 131 | 10 => 139 | 11 => 140 | 12 => 141 | 13 => 142 | 14 => 143 | 15 => 144 | 16 => 145 | 17 => 146 | 18 => 147 | 19 => 148 | 20 => 149 | 30 => 158 | 31 => 159 | 32 => 160 | 33 => 161 | 34 => 162 | 35 => 80 | 40 => 163 | n => n, fun | 0 => 0 | 3 => 3 | 4 => 4 | 5 => 5 | 9 => 9 | 22 => 26 | 23 => 26 | 25 => 3 | 32 => 180 | 35 => 187 | 36 => 188 | 41 => 138 | 44 => 194 | 46 => 196 | 53 => 200 | 57 => 204 | 63 => 207 | 64 => 208 | n => n, fun n => n⟩
theorem srtLays : SlLaysM.n5 Tryz.prog srtRen where
 mixed := by kernel_rfl
 f5 := ⟨ "slices.Sort[[]int,int]", by decide, Tryz.func99.trans (congrArg some (by kernel_rfl))⟩
 f7 := ⟨ "slices.pdqsortOrdered[int]", by decide, Tryz.func130.trans (congrArg some (by kernel_rfl))⟩
 f8 := Tryz.func131.trans (congrArg some (by kernel_rfl))
 f10 := ⟨ "slices.insertionSortOrdered[int]", by decide, Tryz.func139.trans (congrArg some (by kernel_rfl))⟩
 f11 := ⟨ "slices.heapSortOrdered[int]", by decide, Tryz.func140.trans (congrArg some (by kernel_rfl))⟩
 f12 := ⟨ "slices.breakPatternsOrdered[int]", by decide, Tryz.func141.trans (congrArg some (by kernel_rfl))⟩
 f13 := ⟨ "slices.choosePivotOrdered[int]", by decide, Tryz.func142.trans (congrArg some (by kernel_rfl))⟩
 f14 := ⟨ "slices.reverseRangeOrdered[int]", by decide, Tryz.func143.trans (congrArg some (by kernel_rfl))⟩
 f15 := ⟨ "slices.partialInsertionSortOrdered[int]", by decide, Tryz.func144.trans (congrArg some (by kernel_rfl))⟩
 f16 := ⟨ "cmp.Less[int]", by decide, Tryz.func145.trans (congrArg some (by kernel_rfl))⟩
 f17 := ⟨ "slices.partitionEqualOrdered[int]", by decide, Tryz.func146.trans (congrArg some (by kernel_rfl))⟩
 f18 := ⟨ "slices.partitionOrdered[int]", by decide, Tryz.func147.trans (congrArg some (by kernel_rfl))⟩
 f19 := Tryz.func148.trans (congrArg some (by kernel_rfl))
 f20 := Tryz.func149.trans (congrArg some (by kernel_rfl))
 f30 := ⟨ "slices.siftDownOrdered[int]", by decide, Tryz.func158.trans (congrArg some (by kernel_rfl))⟩
 f31 := Tryz.func159.trans (congrArg some (by kernel_rfl))
 f32 := Tryz.func160.trans (congrArg some (by kernel_rfl))
 f33 := ⟨ "slices.medianAdjacentOrdered[int]", by decide, Tryz.func161.trans (congrArg some (by kernel_rfl))⟩
 f34 := ⟨ "slices.medianOrdered[int]", by decide, Tryz.func162.trans (congrArg some (by kernel_rfl))⟩
 f35 := ⟨ "cmp.isNaN[int]", by decide, Tryz.func80.trans (congrArg some (by kernel_rfl))⟩
 f40 := ⟨ "slices.order2Ordered[int]", by decide, Tryz.func163.trans (congrArg some (by kernel_rfl))⟩
 t0 := Tryz.underlying0
 a0 := Tryz.isAgg0
 z0 := Tryz.sizeOf0
 v0 := Tryz.zeroValue0
 t3 := Tryz.underlying3
 a3 := Tryz.isAgg3
 z3 := Tryz.sizeOf3
 v3 := Tryz.zeroValue3
 t4 := Tryz.underlying4
 a4 := Tryz.isAgg4
 z4 := Tryz.sizeOf4
 v4 := Tryz.zeroValue4
 t5 := Tryz.underlying5
 a5 := Tryz.isAgg5
 z5 := Tryz.sizeOf5
 v5 := Tryz.zeroValue5
 t9 := Tryz.underlying9
 a9 := Tryz.isAgg9
 z9 := Tryz.sizeOf9
 v9 := Tryz.zeroValue9
 t22 := Tryz.underlying26
 a22 := Tryz.isAgg26
 z22 := Tryz.sizeOf26
 v22 := Tryz.zeroValue26
 t23 := Tryz.underlying26
 a23 := Tryz.isAgg26
 z23 := Tryz.sizeOf26
 v23 := Tryz.zeroValue26
 t25 := Tryz.underlying3
 a25 := Tryz.isAgg3
 z25 := Tryz.sizeOf3
 v25 := Tryz.zeroValue3
 t32 := Tryz.underlying180
 a32 := Tryz.isAgg180
 z32 := Tryz.sizeOf180
 v32 := Tryz.zeroValue180
 t35 := Tryz.underlying187
 a35 := Tryz.isAgg187
 z35 := Tryz.sizeOf187
 v35 := Tryz.zeroValue187
 t36 := Tryz.underlying188
 a36 := Tryz.isAgg188
 z36 := Tryz.sizeOf188
 v36 := Tryz.zeroValue188
 t41 := Tryz.underlying138
 a41 := Tryz.isAgg138
 z41 := Tryz.sizeOf138
 v41 := Tryz.zeroValue138
 t44 := Tryz.underlying194
 a44 := Tryz.isAgg194
 z44 := Tryz.sizeOf194
 v44 := Tryz.zeroValue194
 t46 := Tryz.underlying196
 a46 := Tryz.isAgg196
 z46 := Tryz.sizeOf196
 v46 := Tryz.zeroValue196
 t53 := Tryz.underlying200
 a53 := Tryz.isAgg200
 z53 := Tryz.sizeOf200
 v53 := Tryz.zeroValue200
 t57 := Tryz.underlying204
 a57 := Tryz.isAgg204
 z57 := Tryz.sizeOf204
 v57 := Tryz.zeroValue204
 t63 := Tryz.underlying207
 a63 := Tryz.isAgg207
 z63 := Tryz.sizeOf207
 v63 := Tryz.zeroValue207
 t64 := Tryz.underlying208
 a64 := Tryz.isAgg208
 z64 := Tryz.sizeOf208
 v64 := Tryz.zeroValue208
def leI : Int → Int → Bool := fun x y => decide (x ≤ y)
theorem flat_int (l : List Int) : l.flatMap intCells = l.map (Value.int .i64) := by
 induction l with
 | nil => rfl
 | cons x l ih => rw [List.flatMap_cons, ih]; rfl
theorem sortI_calls (ss : List Int) (v : Value) (base : Nat) (w : World) (h : w.ownsRow base 3 1 v ss.length (ss.flatMap intCells)) (hn : ss.length ≤ 1000) (R : Ending → World → Prop)
 (hR : ∀ w', w'.ownsRow base 3 1 v (ss.mergeSort leI).length ((ss.mergeSort leI).flatMap intCells) → w.grownBy w' v.ownBlock → R (.returned (.tuple #[])) w') :
 Calls Tryz.prog 99 #[v] w R := by
 rw [flat_int, List.length_mergeSort] at hR
 rw [flat_int] at h
 have h' := h
 obtain ⟨h0, h1⟩ := h
 rcases h1 with ⟨hv, hl⟩ | ⟨g, cap, cur, hv, hb, hh, hnc, hcm, hcs, htk⟩
 ·subst hv
  obtain rfl : ss = [] := List.eq_nil_of_length_eq_zero hl
  refine (AnyM.slices_Sort_int_none srtLays none 0 w).mono ?_
  rintro e w' ⟨rfl, rfl⟩
  exact hR _ (by simpa using h') ⟨rfl, rfl, rfl, Nat.le_refl _, fun _ _ _ => rfl⟩
 ·subst hv
  rw [Nat.mul_one] at htk
  refine (AnyM.slices_Sort_int srtLays g 0 cap ss w (holds_of_blockI hh htk) (Array.getElem?_eq_some_iff.1 hh).1 (by omega)).mono ?_
  rintro e w' ⟨rfl, n, os, rfl⟩
  exact hR _ (ownsRow_sortedI (List.length_mergeSort _) hb hh hnc hcm hcs) (grownBy_sortedI _)
/-- A sorted list. -/
theorem leI_sorted (l : List Int) : (l.mergeSort leI).Pairwise (· ≤ ·) := by
 have h := List.pairwise_mergeSort (le := leI) (fun a b c h1 h2 => by unfold leI at *; rw [decide_eq_true_eq] at *; omega) (fun a b => by unfold leI; rw [Bool.or_eq_true, decide_eq_true_eq, decide_eq_true_eq]; omega) l
 exact h.imp fun {a b} h => by unfold leI at h; rwa [decide_eq_true_eq] at h
end Go.Proofs.YtdanebboiekieaaGreatDoor
namespace Go.Proofs.YtdanebboiekieaaGreatDoor
open Go.RowKit Go.Shelf
set_option linter.unusedSimpArgs false
set_option linter.unusedVariables false
attribute [local go_sem] Oper.semAt_some

/-- What an instruction takes, one by one. -/
abbrev VX (x : UIns) := { v : UVal // v ∈ valsOf x }
def encV (x : UIns) (v : VX x) : Array Value := #[.agg #[.bool v.1.reg, .int .i64 v.1.n]]
/-- All cells of before are as they were, but for those of block g. -/
def CKeep (g : Nat) (W W' : World) : Prop := W.heap.size ≤ W'.heap.size ∧ ∀ k o, W.heap[k]? = some o → o.isCells = true → k ≠ g → W'.heap[k]? = some o
theorem CKeep.refl (g : Nat) (W : World) : CKeep g W W := ⟨Nat.le_refl _, fun _ _ h _ _ => h⟩
theorem CKeep.trans {g : Nat} {A B C : World} (h : CKeep g A B) (k : CKeep g B C) : CKeep g A C := ⟨Nat.le_trans h.1 k.1, fun j o h1 h2 h3 => k.2 j o (h.2 j o h1 h2 h3) h2 h3⟩
theorem CKeep.of_below {g : Nat} {W W' : World} (h : Below W.heap.size W W') : CKeep g W W' := ⟨h.size, fun k o h1 _ _ => (h.block _ (blk_lt h1)).trans h1⟩
theorem CKeep.setCell {g j : Nat} (W : World) (u : Value) : CKeep g W (W.setCell ⟨g, j, none⟩ u) := ⟨by simp [World.setCell], fun k o h1 _ h3 => (Below.heap_setCell _ _ _ _ h3).trans h1⟩
theorem CKeep.putObj {g : Nat} (W : World) (l : Nat) (o o' : Obj) (h : W.heap[l]? = some o) (hc : o.isCells = false) : CKeep g W (W.putObj l o') := by
 have hg := grownBy_putObj' W l o'
 refine ⟨hg.size, fun k x h1 h2 _ => ?_⟩
 by_cases e : k = l
 ·subst e
  rw [h] at h1
  injection h1 with h1
  subst h1
  rw [hc] at h2
  cases h2
 ·exact (hg.block k (blk_lt h1) (fun e' => e (Option.some.inj e'))).trans h1
theorem CKeep.blk {g k : Nat} {W W' : World} (h : CKeep g W W') {A : Array Value} {T : TypeId} {fr : Nat × Nat} (hb : W.heap[k]? = some (.cells A T fr)) (hk : k ≠ g) : W'.heap[k]? = some (.cells A T fr) := h.2 k _ hb rfl hk
theorem CKeep.cell {g : Nat} {W W' : World} (h : CKeep g W W') {p : Addr} {u : Value} (hp : W.cell? p = some u) (hk : p.block ≠ g) : W'.cell? p = some u := by
 have hc := hp
 unfold World.cell? at hp ⊢
 cases hx : W.heap[p.block]? with
 | none => rw [hx] at hp; cases hp
 | some o =>
   cases o with
   | cells A T fr => rw [h.2 _ _ hx rfl hk]; rw [hx] at hp; exact hp
   | _ => rw [hx] at hp; cases hp
/-- What core.Vals's iterator reads: its variable, the arguments. -/
structure ValsNeed (x : UIns) (va : Value) (Bx b0 g : Nat) (W : World) : Prop where
 box : W.heap[Bx]? = some (.cells #[.int .i64 x.op, .int .i64 x.dst, .bool x.a.reg, .int .i64 x.a.n, .bool x.b.reg, .int .i64 x.b.n, .int .i64 x.fn, va] 71 (0, 0))
 args : rpVal.SL W b0 x.args va
 ne : Bx ≠ g
 le : b0 ≤ g
 lt : g < W.heap.size
theorem ValsNeed.keep {x : UIns} {va : Value} {Bx b0 g : Nat} {W W' : World} (h : ValsNeed x va Bx b0 g W) (hk : CKeep g W W') : ValsNeed x va Bx b0 g W' :=
 ⟨hk.blk h.box h.ne, h.args.mono (fun p u hp hc => hk.cell hc (by have := h.le; omega)), h.ne, h.le, Nat.lt_of_lt_of_le h.lt hk.1⟩
theorem abides_below {β : Type} {n₀ : Nat} {J : β → World → Prop} (hJ : AbidesFrom n₀ J) {s : β} {W W' : World} (h : J s W) (hb : Below W.heap.size W W') : J s W' :=
 hJ s W W' none h (grown_of_below hb none) (fun r e => by cases e)
end Go.Proofs.YtdanebboiekieaaGreatDoor
