/- clash.Of. -/
import Derived.Test.YtdanebboiekieaaGreatDoorQ38
import Derived.Test.YtdanebboiekieaaGreatDoorQ01
import Derived.Test.YtdanebboiekieaaGreatDoorRows
import Derived.IntWalk
import Derived.Outline
import Derived.Deep.LoopGhost
import Derived.Deep.CutBlock
import Derived.Deep.DeepCutAuto
import Derived.Deep.AppendLies
import Derived.Maps.OwnIn
import Derived.Laws.MakeOwn
import Derived.Laws.EntriesVeiled
import Derived.Laws.AppendOwnNone
namespace Go.Proofs.YtdanebboiekieaaGreatDoor
open Go.RowKit
set_option linter.unusedSimpArgs false
set_option linter.unusedVariables false
open Go.Maps Go.WideShapes Go.MapKept Go.ChangeMaps Go.ChangeShapes

theorem info_clashset : (Tryz.prog.info? 116).map (fun i => (i.zero, i.size, i.bytes)) = some (some (.map none), 1, 8) := by kernel_rfl
theorem make_sets (W : World) (n : Nat) (hn : n ≤ 5000) : (Instr.makeSlice 114 (.int .i64 (n : Int)) (.int .i64 (n : Int))).run Tryz.prog W = .ok (.slice (some ⟨W.heap.size, 0, none⟩) n n) (W.alloc (.cells (List.replicate n (Value.map none)).toArray 116)) := by
 obtain ⟨iB, hi, z0, z1, z2⟩ := info_parts info_clashset
 have h := run_make (P := Tryz.prog) W 114 116 iB _ Tryz.underlying114 hi z0 .i64 .i64 (n : Int) (n : Int) (by omega) (Int.le_refl _) (by rw [z2]; omega) (by omega)
 rw [z1] at h
 simp only [Int.toNat_natCast, Nat.mul_one] at h
 have e : madeCells (Value.map none).cells n = (List.replicate n (Value.map none)).toArray := by
  unfold madeCells
  apply Array.ext
  ·simp
  ·intro i h1 h2
   simp [Value.cells, Nat.mod_one]
 rw [e] at h
 exact h
theorem JO.more {n b0 n0 n1 g c sb cb : Nat} {ms : Nat → Nat} {σ : Int → Int → Bool} {W : World} (h : JO n b0 n0 g c sb cb ms σ W) (hn : n0 ≤ n1) (hl : n1 ≤ W.heap.size) : JO n b0 n1 g c sb cb ms σ W := by
 obtain ⟨h1, h2, h3, h4, h5⟩ := h.lo
 exact ⟨h.box, h.cbox, h.row, h.sets, h.inj, by omega, by omega, by omega, hl, fun k hk => by have := h5 k hk; omega⟩
theorem clashS_iff (σ : Int → Int → Bool) (a b p q : Int) : clashS σ a b p q = true ↔ (σ p q = true ∨ (a ≠ b ∧ ((p = a ∧ q = b) ∨ (p = b ∧ q = a)))) := by
 unfold clashS
 simp only [Bool.or_eq_true, Bool.and_eq_true, Bool.not_eq_true', decide_eq_false_iff_not, decide_eq_true_eq, ne_eq]
def PairT (B : List Int) (i : Nat) (p q : Int) : Prop := (p ∈ B.take i ∧ q ∈ B) ∨ (q ∈ B.take i ∧ p ∈ B)
def PairU (B : List Int) (i j : Nat) (a p q : Int) : Prop := PairT B i p q ∨ (p = a ∧ q ∈ B.take j) ∨ (q = a ∧ p ∈ B.take j)
theorem take_mem_step {B : List Int} {j : Nat} (h : j < B.length) (x : Int) : x ∈ B.take (j + 1) ↔ (x ∈ B.take j ∨ x = B[j]) := by
 rw [List.take_succ_eq_append_getElem h, List.mem_append, List.mem_singleton]
theorem pairU_step {σ : Int → Int → Bool} {B : List Int} {i j : Nat} {a : Int} (hj : j < B.length) (h : ∀ p q, σ p q = true ↔ (p ≠ q ∧ PairU B i j a p q)) (p q : Int) : clashS σ a B[j] p q = true ↔ (p ≠ q ∧ PairU B i (j + 1) a p q) := by
 rw [clashS_iff, h]
 unfold PairU
 rw [take_mem_step hj, take_mem_step hj]
 constructor
 ·rintro (⟨h1, h2 | ⟨h2, h3⟩ | ⟨h2, h3⟩⟩ | ⟨h1, ⟨h2, h3⟩ | ⟨h2, h3⟩⟩)
  ·exact ⟨h1, .inl h2⟩
  ·exact ⟨h1, .inr (.inl ⟨h2, .inl h3⟩)⟩
  ·exact ⟨h1, .inr (.inr ⟨h2, .inl h3⟩)⟩
  ·exact ⟨fun e => h1 (by rw [← h2, ← h3]; exact e), .inr (.inl ⟨h2, .inr h3⟩)⟩
  ·exact ⟨fun e => h1 (by rw [← h3, ← h2]; exact e.symm), .inr (.inr ⟨h3, .inr h2⟩)⟩
 ·rintro ⟨h1, h2 | ⟨h2, h3 | h3⟩ | ⟨h2, h3 | h3⟩⟩
  ·exact .inl ⟨h1, .inl h2⟩
  ·exact .inl ⟨h1, .inr (.inl ⟨h2, h3⟩)⟩
  ·exact .inr ⟨fun e => h1 (by rw [h2, h3]; exact e), .inl ⟨h2, h3⟩⟩
  ·exact .inl ⟨h1, .inr (.inr ⟨h2, h3⟩)⟩
  ·exact .inr ⟨fun e => h1 (by rw [h2, h3]; exact e.symm), .inr ⟨h3, h2⟩⟩
theorem pairU_none {B : List Int} {i : Nat} {a : Int} (p q : Int) : PairU B i 0 a p q ↔ PairT B i p q := by
 unfold PairU
 simp
theorem pairU_all {B : List Int} {i : Nat} (hi : i < B.length) (p q : Int) : PairU B i B.length B[i] p q ↔ PairT B (i + 1) p q := by
 unfold PairU PairT
 rw [take_mem_step hi, take_mem_step hi, List.take_length]
 constructor
 ·rintro ((⟨h1, h2⟩ | ⟨h1, h2⟩) | ⟨h1, h2⟩ | ⟨h1, h2⟩)
  ·exact .inl ⟨.inl h1, h2⟩
  ·exact .inr ⟨.inl h1, h2⟩
  ·exact .inl ⟨.inr h1, h2⟩
  ·exact .inr ⟨.inr h1, h2⟩
 ·rintro (⟨h1 | h1, h2⟩ | ⟨h1 | h1, h2⟩)
  ·exact .inl (.inl ⟨h1, h2⟩)
  ·exact .inr (.inl ⟨h1, h2⟩)
  ·exact .inl (.inr ⟨h1, h2⟩)
  ·exact .inr (.inr ⟨h1, h2⟩)
theorem clash_lt {u : Unt} {f : UFun} (hf : FunOk u f) {a b : Int} (h : Clash f a b) : b < f.regs := by
 obtain ⟨_, _, _, ⟨_, h⟩ | ⟨_, _, _, _, _, _, _, h, _⟩ | ⟨i, k, blk, x, h1, h2, h3, _⟩⟩ := h
 ·exact (h.lt hf).2
 ·exact (h.lt hf).2
 ·have := (hf.ins blk (List.mem_of_getElem? h1) x (List.mem_of_getElem? h2)).dst
  omega
def rowsTo (C : Int → Int → Bool) (n k : Nat) : List (List Int) := (ints k).map fun a => rowX (C a) n
theorem rowsTo_step (C : Int → Int → Bool) (n k : Nat) : rowsTo C n (k + 1) = rowsTo C n k ++ [rowX (C (k : Int)) n] := by
 unfold rowsTo
 rw [ints_succ, List.map_append]
 rfl
theorem rowsTo_len (C : Int → Int → Bool) (n k : Nat) : (rowsTo C n k).length = k := by
 unfold rowsTo
 rw [List.length_map, ints_len]
/-- Sets on the way: those ahead of r are made. -/
structure MkS (n g G r : Nat) (W : World) : Prop where
 row : ∃ A : Array Value, W.heap[g]? = some (.cells A 116 (0, 0)) ∧ A.size = n ∧ ∀ k, k < r → A[k]? = some (.map (some (G + k)))
 size : W.heap.size = G + r
 sets : ∀ k, k < r → SetM W (G + k) (fun _ => false)
theorem MkS.step {n g G r : Nat} {W : World} (h : MkS n g G r W) (hg : g < G) (hr : r < n) : MkS n g G (r + 1) ((W.alloc (Obj.map #[] 0)).setCell ⟨g, r, none⟩ (.map (some (G + r)))) := by
 obtain ⟨⟨A, h1, h2, h3⟩, h4, h5⟩ := h
 have hb : (W.alloc (Obj.map #[] 0)).heap[g]? = some (.cells A 116 (0, 0)) := blk_alloc h1 _
 refine ⟨⟨A.setIfInBounds r (.map (some (G + r))), block_set hb _, by simp [h2], fun k hk => ?_⟩, by simp [World.setCell]; omega, fun k hk => ?_⟩
 ·rw [Array.getElem?_setIfInBounds]
  by_cases e : r = k
  ·subst e
   rw [if_pos rfl, if_pos (by omega)]
  ·rw [if_neg e]
   exact h3 k (by omega)
 ·have hne : G + k ≠ g := by omega
  refine SetM.block (w := W.alloc (Obj.map #[] 0)) ?_ (Below.heap_setCell _ _ _ _ hne)
  by_cases e : k = r
  ·subst e
   rw [← h4]
   exact SetM.made W
  ·exact (h5 k (by omega)).kept (World.grownBy_alloc W (Obj.map #[] 0) none) (by simp)
set_option maxRecDepth 100000 in
set_option maxHeartbeats 16000000 in
theorem Of_calls (C : Int → Int → Bool) (L : Nat → Nat → Int → Bool) (u : Unt) (hu : UntI u) (hok : checkF u = (0, 0)) (k : Nat) (f : UFun) (hkf : u.funcs[k]? = some f) (hnp : ∀ b ∈ f.blocks, b.phis = []) (hto : ∀ b ∈ f.blocks, b.end_.to.length ≤ 2) (n : Nat) (hn : f.regs = (n : Int)) (hL : ∀ i k r, L i k r = true ↔ LvI f r i k) (hC : ∀ a b, C a b = true ↔ Clash f a b) (gA fA : Option Addr) (gn gc fc : Nat) (w : World) (hW : Ways w) (hg : rpGlobal.SL w w.heap.size u.globals (.slice gA gn gc)) (hf : rpFun.SL w w.heap.size u.funcs (.slice fA u.funcs.length fc)) (R : Ending → World → Prop)
 (hR : ∀ w' v', Below w.heap.size w w' → rpInt.slice.SLF w' w.heap.size w'.heap.size (rowsC C n) v' → R (.returned (.tuple #[v', (.agg #[.int .i64 (((0 : Int), (0 : Int))).1, .int .i64 (((0 : Int), (0 : Int))).2])])) w') :
 Calls Tryz.prog 37 #[.agg #[.slice gA gn gc, .slice fA u.funcs.length fc], .int .i64 (k : Int)] w R := by
 have hfo := funOk hok hkf
 have hn1 : n ≤ 100 := by have := hfo.regs.2; omega
 have hcl := clash_ok hok hkf hnp
 obtain ⟨iC, hiC, zC0, zC1, zC2⟩ := info_parts info_ints2
 obtain ⟨hku, hfk⟩ := List.getElem?_eq_some_iff.1 hkf
 obtain ⟨bf, offf, vb, hfA, hbf, hsb, qf0, qf1, qf2, qf3⟩ := hf.fun_at hku
 subst hfA
 rw [hfk] at qf0 qf1 qf2 hsb
 rw [hn] at qf2
 obtain ⟨bA, bc, rfl, _, _, _⟩ := hsb.cases_
 have k0 : (0 : Int) ≤ (k : Int) := Int.natCast_nonneg _
 have k1 : (k : Int) < (u.funcs.length : Int) := by omega
 have HR := Lib.hid hR
 have Hg := Lib.hid hg
 have Hf := Lib.hid hf
 have HW := Lib.hid hW
 have Hk := Lib.hid hok
 have Hkf := Lib.hid hkf
 have Hnp := Lib.hid hnp
 have Hto := Lib.hid hto
 have Hn := Lib.hid hn
 have HL := Lib.hid hL
 have HC := Lib.hid hC
 have Hcl := Lib.hid hcl
 have Hfo := Lib.hid hfo
 clear hR hg hf hW hok hkf hnp hto hn hL hC hcl hfo hsb hfk
 go_enter Tryz.func37, Tryz.ntmps37
 go_upto_region 1 with fail
 obtain ⟨W2, hW2⟩ : ∃ W2, W2 = (w.alloc (Obj.cells #[.slice gA gn gc, .slice (some ⟨bf, offf, none⟩) u.funcs.length fc] 25)).alloc (Obj.cells #[.int .i64 0, .int .i64 0] 30) := ⟨_, rfl⟩
 have hb2 : Below w.heap.size w W2 := by subst hW2; exact bl0
 have hU2 : W2.heap[w.heap.size]? = some (.cells #[.slice gA gn gc, .slice (some ⟨bf, offf, none⟩) u.funcs.length fc] 25 (0, 0)) := by subst hW2; exact blk_alloc (heap_alloc_new _ _) _
 have hF2 : W2.heap[w.heap.size + 1]? = some (.cells #[.int .i64 0, .int .i64 0] 30 (0, 0)) := by
  subst hW2
  have := heap_alloc_new (w.alloc (Obj.cells #[.slice gA gn gc, .slice (some ⟨bf, offf, none⟩) u.funcs.length fc] 25)) (Obj.cells #[.int .i64 0, .int .i64 0] 30)
  simpa using this
 rw [← hW2]
 have Hb2 := Lib.hid hb2
 have HU2 := Lib.hid hU2
 have HF2 := Lib.hid hF2
 have hz2 := hb2.size
 obtain ⟨u0, u1⟩ := cells_blk hU2
 have lU := blk_lt hU2
 clear hW2 hb2 hU2 hF2
 go_wp2_with fail
 refine ClashFault_calls u hu (k : Int) _ _ _ _ _ _ _ (HW.out.up Hb2.out HW.out.1) (Hg.out.up Hb2.out hz2) (Hf.out.up Hb2.out hz2) _ (fun w3 hb3 => ?_)
 rw [Hcl.out]
 have Hb3 := Lib.hid (Hb2.out.trans (hb3.mono hz2))
 have HU3 := Lib.hid ((hb3.block _ (blk_lt HU2.out)).trans HU2.out)
 have HF3 := Lib.hid ((hb3.block _ (blk_lt HF2.out)).trans HF2.out)
 have hz3 := Hb3.out.size
 clear hb3 u0 u1 lU
 obtain ⟨u0, u1⟩ := cells_blk HU3.out
 have lU := blk_lt HU3.out
 obtain ⟨g, hg⟩ : ∃ g, g = w3.heap.size + 1 := ⟨_, rfl⟩
 obtain ⟨W5, hW5⟩ : ∃ W5, W5 = ((w3.alloc (Obj.cells #[.int .i64 0, .int .i64 0] 30)).alloc (.cells (Array.replicate n (Value.map none)) 116)).alloc (Obj.cells #[.slice (some ⟨g, 0, none⟩) n n] 114) := ⟨_, rfl⟩
 have hmk := make_sets (w3.alloc (Obj.cells #[.int .i64 0, .int .i64 0] 30)) n (by omega)
 have hsz : (w3.alloc (Obj.cells #[.int .i64 0, .int .i64 0] 30)).heap.size = g := by rw [hg]; simp
 rw [hsz] at hmk
 have q2 := (Hb3.out.cell (p := ⟨bf, offf + k * 4 + 2, none⟩) hbf).trans qf2
 have lbf : bf < w3.heap.size := by omega
 have hb35 : Below w3.heap.size w3 W5 := by subst hW5; exact bl0
 have hM5 : MkS n g (g + 2) 0 W5 := by
  subst hW5
  refine ⟨⟨_, blk_alloc (by have := heap_alloc_new (w3.alloc (Obj.cells #[.int .i64 0, .int .i64 0] 30)) (.cells (Array.replicate n (Value.map none)) 116); rw [hsz] at this; exact this) _, by simp, fun k hk => absurd hk (Nat.not_lt_zero k)⟩, by simp; omega, fun k hk => absurd hk (Nat.not_lt_zero k)⟩
 have hX5 : W5.heap[g + 1]? = some (.cells #[.slice (some ⟨g, 0, none⟩) n n] 114 (0, 0)) := by
  have := heap_alloc_new ((w3.alloc (Obj.cells #[.int .i64 0, .int .i64 0] 30)).alloc (.cells (Array.replicate n (Value.map none)) 116)) (Obj.cells #[.slice (some ⟨g, 0, none⟩) n n] 114)
  rw [← hW5] at this
  have e : ((w3.alloc (Obj.cells #[.int .i64 0, .int .i64 0] 30)).alloc (.cells (Array.replicate n (Value.map none)) 116)).heap.size = g + 1 := by simp; omega
  rwa [e] at this
 have Hb5 := Lib.hid (Hb3.out.trans (hb35.mono hz3))
 have HU5 := Lib.hid ((hb35.block _ (blk_lt HU3.out)).trans HU3.out)
 have HF5 := Lib.hid ((hb35.block _ (blk_lt HF3.out)).trans HF3.out)
 have HM5 := Lib.hid hM5
 have HX5 := Lib.hid hX5
 have HW5 := Lib.hid hW5.symm
 have Hg3 : Hid (w.heap.size + 1 < g ∧ w3.heap.size < g) := Lib.hid ⟨by have := blk_lt HF3.out; omega, by omega⟩
 have Hgs := Lib.hid hg
 have hz5 := Hb5.out.size
 clear hb35 hM5 hX5 hW5 hsz hg
 go_upto_region 5 with fail
 rw [HW5.out, show w3.heap.size + 1 + 1 = g + 1 from by have := Hgs.out; omega]
 clear u0 u1 lU q2 lbf hmk
 have hmm := @run_makeMap Tryz.prog
 have x0 : W5.cell? ⟨g + 1, 0, none⟩ = some (.slice (some ⟨g, 0, none⟩) n n) := by rw [blk_cells HX5.out]; rfl
 have lX := blk_lt HX5.out
 go_wp2
 clear x0 lX
 go_loopg [34] n (fun gh s34 wr => ∃ r : Nat, r ≤ n ∧ gh = n - r ∧ s34 = .int .i64 (r : Int) ∧ Hid (MkS n g (g + 2) r wr) ∧ Hid (Grew (fun k => k = g) W5 wr))
 case atStart => exact ⟨0, Nat.zero_le _, rfl, rfl, HM5, Lib.hid (Grew.refl _ _)⟩
 case round =>
  obtain ⟨r, hr, rfl, rfl, HMr, HGr⟩ := hrel
  have hzr : W5.heap.size ≤ wr.heap.size := HGr.out.size
  have hXr := (HGr.out.block _ (blk_lt HX5.out) (by omega)).trans HX5.out
  have x0 : wr.cell? ⟨g + 1, 0, none⟩ = some (.slice (some ⟨g, 0, none⟩) n n) := by rw [blk_cells hXr]; rfl
  have lX := blk_lt hXr
  have r1 : (0 : Int) ≤ (r : Int) := Int.natCast_nonneg _
  by_cases hlt : r < n
  ·have r2 : (r : Int) < (n : Int) := by omega
   obtain ⟨A, hA1, hA2, hA3⟩ := HMr.out.row
   have hA1' : (wr.alloc (Obj.map #[] 0)).heap[g]? = some (.cells A 116 (0, 0)) := blk_alloc hA1 _
   obtain ⟨v0, hv0⟩ : ∃ v0, A[r]? = some v0 := ⟨A[r]'(by omega), Array.getElem?_eq_getElem (by omega)⟩
   have a0 : wr.cell? ⟨g, r, none⟩ = some v0 := by rw [blk_cells hA1]; exact hv0
   have fA : wr.frozen? ⟨g, r, none⟩ = false := by simp [World.frozen?, hA1]
   have lg := blk_lt hA1
   have hst := HMr.out.step (by omega) hlt
   have hsz := HMr.out.size
   rw [← hsz] at hst
   have hG2 : Grew (fun k => k = g) W5 ((wr.alloc (Obj.map #[] 0)).setCell ⟨g, r, none⟩ (.map (some wr.heap.size))) := by
    have h1 := HGr.out
    refine Grew.trans h1 (?_ : Grew (fun k => k = g) wr _) (fun _ _ h => h)
    exact ⟨rfl, rfl, rfl, by simp [World.setCell], fun k hk hx => (Below.heap_setCell _ _ _ _ hx).trans (Below.heap_alloc wr (Obj.map #[] 0) k hk)⟩
   have hcomm : (wr.alloc (Obj.map #[] 0)).setCell ⟨g, r, none⟩ (.map (some wr.heap.size)) = (wr.setCell ⟨g, r, none⟩ (.map (some wr.heap.size))).alloc (Obj.map #[] 0) := World.setCell_alloc_past (Obj.map #[] 0) g r _ lg
   rw [hcomm] at hst hG2
   have Hst := Lib.hid hst
   have HG2 := Lib.hid hG2
   clear hst hG2 hA1 hA1' hv0 hXr hA2 hA3 hsz
   go_wp2
   go_roundg (n - (r + 1))
   case measure => omega
   case rel => exact ⟨r + 1, hlt, rfl, by go_num, Hst, HG2⟩
  ·obtain rfl : r = n := by omega
   have r2 : ¬ ((r : Int) < (r : Int)) := by omega
   obtain ⟨cb, hcb⟩ : ∃ cb, cb = wr.heap.size := ⟨_, rfl⟩
   obtain ⟨W7, hW7⟩ : ∃ W7, W7 = wr.alloc (Obj.cells #[.func (.func 72) #[] #[.pointer (some ⟨g + 1, 0, none⟩)]] 104) := ⟨_, rfl⟩
   have hb7 : Below wr.heap.size wr W7 := by subst hW7; exact bl0
   have hQ7 : W7.heap[cb]? = some (.cells #[.func (.func 72) #[] #[.pointer (some ⟨g + 1, 0, none⟩)]] 104 (0, 0)) := by subst hW7 hcb; exact heap_alloc_new _ _
   have hsz7 : W7.heap.size = wr.heap.size + 1 := by subst hW7; simp
   have hJ7 : JO r w.heap.size W7.heap.size g r (g + 1) cb (fun k => g + 2 + k) (fun _ _ => false) W7 := by
    obtain ⟨A, hA1, hA2, hA3⟩ := HMr.out.row
    have hsz := HMr.out.size
    have hA7 := (hb7.block _ (blk_lt hA1)).trans hA1
    have hX7 := (hb7.block _ lX).trans hXr
    refine ⟨by rw [blk_cells hX7]; rfl, by rw [blk_cells hQ7]; rfl, fun k hk => by rw [blk_cells hA7]; exact hA3 k hk, fun k hk => (HMr.out.sets k hk).below hb7, fun j k _ _ e => by omega, by omega, by omega, by omega, Nat.le_refl _, fun k hk => by have := Hg3.out; omega⟩
   have hB5r : Below w.heap.size w wr := ⟨HGr.out.os.trans Hb5.out.os, HGr.out.tape.trans Hb5.out.tape, HGr.out.output.trans Hb5.out.output, by omega, fun k hk => (HGr.out.block k (by omega) (by have := Hg3.out; omega)).trans (Hb5.out.block k hk)⟩
   have Hb7 := Lib.hid (hB5r.trans (hb7.mono (by omega)))
   have HU7 := Lib.hid ((hb7.block _ (by have := blk_lt HU5.out; omega)).trans ((HGr.out.block _ (blk_lt HU5.out) (by have := Hg3.out; omega)).trans HU5.out))
   have HF7 := Lib.hid ((hb7.block _ (by have := blk_lt HF5.out; omega)).trans ((HGr.out.block _ (blk_lt HF5.out) (by have := Hg3.out; omega)).trans HF5.out))
   have HJ7 := Lib.hid hJ7
   have HW7 := Lib.hid hW7.symm
   have hz7 := Hb7.out.size
   clear hb7 hQ7 hJ7 hB5r hW7 x0 lX hXr HMr HGr hmm
   go_upto_region 11 with fail
   rw [HW7.out, ← hcb]
   clear hcb
   obtain ⟨u0, u1⟩ := cells_blk HU7.out
   have lU := blk_lt HU7.out
   go_wp2_with fail
   refine Begin_calls u hu Hk.out k f Hkf.out Hnp.out Hto.out r Hn.out _ _ _ _ _ _ _ (HW.out.up Hb7.out HW.out.1) (Hg.out.up Hb7.out hz7) (Hf.out.up Hb7.out hz7) _ (fun w8 S v8 hb8 hsl8 hSn hSL => ?_)
   obtain ⟨A8, c8, rfl, _, _, hsl8⟩ := hsl8.cases_
   have hBg : ∀ z, z ∈ setL S ↔ LvI f z 0 0 := fun z => by
    rw [mem_setL]
    constructor
    ·rintro ⟨x, rfl, h1, h2⟩
     exact ⟨x, rfl, (hSL x (by omega)).1 h2⟩
    ·rintro ⟨x, rfl, h2⟩
     have := lv_lt Hfo.out h2
     rw [Hn.out] at this
     exact ⟨x, rfl, by omega, (hSL x (by omega)).2 h2⟩
   have hBr : ∀ z ∈ setL S, 0 ≤ z ∧ z < (r : Int) := fun z hz => by
    obtain ⟨x, rfl, h1, _⟩ := mem_setL.1 hz
    omega
   have HBg := Lib.hid hBg
   have HBr := Lib.hid hBr
   have Hsl8 := Lib.hid hsl8.SL
   have HJ8 := Lib.hid (HJ7.out.below hb8)
   have Hb8 := Lib.hid (Hb7.out.trans (hb8.mono hz7))
   have HU8 := Lib.hid ((hb8.block _ lU).trans HU7.out)
   have HF8 := Lib.hid ((hb8.block _ (blk_lt HF7.out)).trans HF7.out)
   have hz8 := Hb8.out.size
   have hz78 := hb8.size
   generalize setL S = Bg at *
   clear hb8 hsl8 hSn hSL hBg hBr u0 u1 lU
   go_wp2_with fail
   go_loopg [48] Bg.length (fun gh s48 wx => ∃ i : Nat, i ≤ Bg.length ∧ gh = Bg.length - i ∧ s48 = .int .i64 (i : Int) ∧ Hid (∃ σ, JO r w.heap.size W7.heap.size g r (g + 1) cb (fun k => g + 2 + k) σ wx ∧ ∀ p q, σ p q = true ↔ (p ≠ q ∧ PairT Bg i p q)) ∧ Hid (Mid w.heap.size W7.heap.size w8 wx) ∧ Hid (CKeepA w8 wx))
   case atStart => exact ⟨0, Nat.zero_le _, rfl, rfl, Lib.hid ⟨_, HJ8.out, fun p q => by simp [PairT]⟩, Lib.hid (Grew.refl _ _), Lib.hid (CKeepA.refl _)⟩
   case round =>
    obtain ⟨i, hi, rfl, rfl, HJi, HMi, HCi⟩ := hrel
    have i1 : (0 : Int) ≤ (i : Int) := Int.natCast_nonneg _
    have hzi : w8.heap.size ≤ wr.heap.size := HMi.out.size
    obtain ⟨wi, hwi⟩ : ∃ wi, wi = wr := ⟨_, rfl⟩
    rw [← hwi] at HJi HMi HCi hzi ⊢
    clear hwi
    by_cases hlt : i < Bg.length
    ·obtain ⟨b8, o8, rfl, hb8, p0⟩ := Hsl8.out.int_at hlt
     have i2 : (i : Int) < (Bg.length : Int) := by omega
     have r0 := HCi.out.cell p0
     have lb8 := World.block_lt_of_cell? wi _ r0
     have hgd : Bg.getD i 0 = Bg[i] := by rw [List.getD_eq_getElem?_getD, List.getElem?_eq_getElem hlt]; rfl
     obtain ⟨a, haa, har⟩ : ∃ a : Nat, Bg.getD i 0 = (a : Int) ∧ a < r := by
      have := HBr.out _ (List.getElem_mem hlt)
      exact ⟨(Bg[i]).toNat, by rw [hgd]; omega, by omega⟩
     have Haa : Hid (Bg[i] = (a : Int)) := Lib.hid (by rw [← hgd]; exact haa)
     rw [haa] at r0
     clear p0 hgd haa
     go_wp2_with fail
     clear r0 lb8
     go_loopg [54] Bg.length (fun gh s54 wx => ∃ j : Nat, j ≤ Bg.length ∧ gh = Bg.length - j ∧ s54 = .int .i64 (j : Int) ∧ Hid (∃ σ, JO r w.heap.size W7.heap.size g r (g + 1) cb (fun k => g + 2 + k) σ wx ∧ ∀ p q, σ p q = true ↔ (p ≠ q ∧ PairU Bg i j (a : Int) p q)) ∧ Hid (Mid w.heap.size W7.heap.size w8 wx) ∧ Hid (CKeepA w8 wx))
     case atStart =>
      obtain ⟨σ, h1, h2⟩ := HJi.out
      exact ⟨0, Nat.zero_le _, rfl, rfl, Lib.hid ⟨σ, h1, fun p q => by rw [h2, pairU_none]⟩, HMi, HCi⟩
     case round =>
      obtain ⟨j, hj, rfl, rfl, HJj, HMj, HCj⟩ := hrel
      have j1 : (0 : Int) ≤ (j : Int) := Int.natCast_nonneg _
      by_cases hltj : j < Bg.length
      ·obtain ⟨b9, o9, hA9, hb9, p0⟩ := Hsl8.out.int_at hltj
       cases hA9
       have j2 : (j : Int) < (Bg.length : Int) := by omega
       have r0 := HCj.out.cell p0
       have lb9 := World.block_lt_of_cell? wr _ r0
       have hgd : Bg.getD j 0 = Bg[j] := by rw [List.getD_eq_getElem?_getD, List.getElem?_eq_getElem hltj]; rfl
       obtain ⟨b, hbb, hbr⟩ : ∃ b : Nat, Bg.getD j 0 = (b : Int) ∧ b < r := by
        have := HBr.out _ (List.getElem_mem hltj)
        exact ⟨(Bg[j]).toNat, by rw [hgd]; omega, by omega⟩
       have Hbb : Hid (Bg[j] = (b : Int)) := Lib.hid (by rw [← hgd]; exact hbb)
       rw [hbb] at r0
       obtain ⟨σ, hJj, hσ⟩ := HJj.out
       have c0 := hJj.cbox
       have lc := World.block_lt_of_cell? wr _ c0
       have HJ := Lib.hid hJj
       have Hσ := Lib.hid hσ
       clear p0 hgd hbb hJj hσ
       go_wp2_with fail
       refine of1_calls r w.heap.size W7.heap.size g r (g + 1) cb _ σ a b _ HJ.out har hbr hn1 _ (fun w5 hJ5 hM5 hC5 => ?_)
       have HJ5 : Hid (∃ σ, JO r w.heap.size W7.heap.size g r (g + 1) cb (fun k => g + 2 + k) σ w5 ∧ ∀ p q, σ p q = true ↔ (p ≠ q ∧ PairU Bg i (j + 1) (a : Int) p q)) := Lib.hid ⟨_, hJ5, fun p q => by rw [← Hbb.out]; exact pairU_step hltj Hσ.out p q⟩
       have HM5 := Lib.hid (HMj.out.to hM5)
       have HC5 := Lib.hid (HCj.out.trans hC5)
       clear hJ5 hM5 hC5 r0 lb9 c0 lc
       go_wp2
       go_roundg (Bg.length - (j + 1))
       case measure => omega
       case rel => exact ⟨j + 1, hltj, rfl, by go_num, HJ5, HM5, HC5⟩
      ·obtain rfl : j = Bg.length := by omega
       have j2 : ¬ ((Bg.length : Int) < (Bg.length : Int)) := by omega
       have HJ5 : Hid (∃ σ, JO r w.heap.size W7.heap.size g r (g + 1) cb (fun k => g + 2 + k) σ wr ∧ ∀ p q, σ p q = true ↔ (p ≠ q ∧ PairT Bg (i + 1) p q)) := Lib.hid (by
        obtain ⟨σ, h1, h2⟩ := HJj.out
        exact ⟨σ, h1, fun p q => by rw [h2, ← Haa.out, pairU_all hlt]⟩)
       go_wp2
       go_roundg (Bg.length - (i + 1))
       case measure => omega
       case rel => exact ⟨i + 1, hlt, rfl, by go_num, HJ5, HMj, HCj⟩
    ·obtain rfl : i = Bg.length := by omega
     have i2 : ¬ ((Bg.length : Int) < (Bg.length : Int)) := by omega
     obtain ⟨σ0, hJ9, hσ0⟩ := HJi.out
     have hwi : Below w.heap.size w wi := ⟨HMi.out.os.trans Hb8.out.os, HMi.out.tape.trans Hb8.out.tape, HMi.out.output.trans Hb8.out.output, by omega, fun k hk => (HMi.out.block k (by omega) (by omega)).trans (Hb8.out.block k hk)⟩
     have Hwi := Lib.hid hwi
     have HJ9 := Lib.hid (hJ9.more (n1 := wi.heap.size) (by omega) (Nat.le_refl _))
     have Hσ0 : Hid (∀ p q, σ0 p q = true ↔ (p ≠ q ∧ LvI f p 0 0 ∧ LvI f q 0 0)) := Lib.hid (fun p q => by
      rw [hσ0, ← HBg.out, ← HBg.out]
      unfold PairT
      rw [List.take_length]
      constructor
      ·rintro ⟨h1, ⟨h2, h3⟩ | ⟨h2, h3⟩⟩
       ·exact ⟨h1, h2, h3⟩
       ·exact ⟨h1, h3, h2⟩
      ·rintro ⟨h1, h2, h3⟩
       exact ⟨h1, .inl ⟨h2, h3⟩⟩)
     have HU9 := Lib.hid (HCi.out.blk HU8.out)
     have HF9 := Lib.hid (HCi.out.blk HF8.out)
     have hzw := hwi.size
     clear hJ9 hσ0 hwi HJi
     obtain ⟨u0, u1⟩ := cells_blk HU9.out
     have lU := blk_lt HU9.out
     go_wp2_with fail
     refine backO_calls (JO r w.heap.size wi.heap.size g r (g + 1) cb (fun k => g + 2 + k)) updO (.pointer (some ⟨cb, 0, none⟩)) L u hu Hk.out k f Hkf.out Hnp.out Hto.out r Hn.out HL.out _ _ _ _ _ w.heap.size wi (HW.out.up Hwi.out HW.out.1) (Hg.out.up Hwi.out (Nat.le_refl _)) (Hf.out.up Hwi.out (Nat.le_refl _)) hzw HW.out.1 (fun σ W W' h hb => h.below hb) σ0 HJ9.out (fun σ x va W mp X hx hj hmp hS hX R hR => of2_calls u r w.heap.size wi.heap.size _ _ _ _ _ σ x va W mp X hx hj hn1 hmp hS hX R hR) _ (fun w9 hJ9 hM9 hC9 => ?_)
     obtain ⟨σ9, hσ9⟩ : ∃ σ9, σ9 = runF updO f.blocks L f.blocks.length σ0 := ⟨_, rfl⟩
     rw [← hσ9] at hJ9
     have Hrow : Hid (∀ a : Nat, rowX (σ9 (a : Int)) r = rowX (C (a : Int)) r) := Lib.hid (fun a => rowX_congr (fun x hx _ => by
      rw [Bool.eq_iff_iff, hσ9, clash_run HL.out Hσ0.out (Int.natCast_nonneg _) hx, HC.out]))
     have hσr : ∀ a : Nat, ∀ x, σ9 (a : Int) x = true → x < (r : Int) := fun a x hx => by
      rcases Int.lt_or_le x 0 with h0 | h0
      ·omega
      ·have h1 := clash_lt Hfo.out ((clash_run HL.out Hσ0.out (Int.natCast_nonneg a) h0).1 (by rw [← hσ9]; exact hx))
       rw [Hn.out] at h1
       exact h1
     have Hb9 : Hid (Below w.heap.size w w9) := Lib.hid ⟨hM9.os.trans Hwi.out.os, hM9.tape.trans Hwi.out.tape, hM9.output.trans Hwi.out.output, Nat.le_trans hzw hM9.size, fun k hk => (hM9.block k (by omega) (by omega)).trans (Hwi.out.block k hk)⟩
     have HJ10 := Lib.hid (hJ9.more (n1 := w9.heap.size) hM9.size (Nat.le_refl _))
     have HF10 := Lib.hid (hC9.blk HF9.out)
     have Hσr := Lib.hid hσr
     have hz9 := Hb9.out.size
     clear hJ9 hM9 hC9 hσ9 hσr u0 u1 lU
     have x0 := HJ10.out.box
     have lx := World.block_lt_of_cell? w9 _ x0
     go_wp2
     clear x0 lx
     go_loopg [15, 70] r (fun gh s15 s70 wx => ∃ (k : Nat) (css : List (List Value)), k ≤ r ∧ gh = r - k ∧ s70 = .int .i64 (k : Int) ∧ Hid (Built rpInt.slice w9.heap.size 26 (fun b => b < w9.heap.size) wx s15 (rowsTo C r k) css) ∧ Hid (Below w9.heap.size w9 wx))
     case atStart => exact ⟨0, [], Nat.zero_le _, rfl, rfl, Lib.hid (Built.nil _ _ _ _ _ (fun _ h => h)), Lib.hid (Below.refl _ _)⟩
     case round =>
      obtain ⟨k, css, hk, rfl, rfl, Hbu, Hbel⟩ := hrel
      have hzq := Hbel.out.size
      obtain ⟨A6, n6, hs6⟩ := own_slice Hbu.out.own
      subst hs6
      have k1 : (0 : Int) ≤ (k : Int) := Int.natCast_nonneg _
      have Hll := Lib.hid (rowsTo_len C r k)
      by_cases hlt : k < r
      ·have k2 : (k : Int) < (r : Int) := by omega
       have hJk := HJ10.out.below Hbel.out
       have x0 := hJk.row k hlt
       have lx := World.block_lt_of_cell? wr _ x0
       have HSk := Lib.hid (hJk.sets k hlt)
       have Hst := Lib.hid (rowsTo_step C r k)
       generalize rowsTo C r k = LT at *
       rw [Hll.out] at Hbu
       rw [Hll.out]
       clear hJk
       go_wp2_with fail
       refine rising_calls _ _ r _ HSk.out (Hσr.out k) _ (fun w5 v5 hb5 hown5 => ?_)
       rw [Hrow.out] at hown5
       generalize rowX (C (k : Int)) r = Lk' at *
       obtain ⟨A5, c5, rfl⟩ := own_slice hown5
       have Ho5 := Lib.hid hown5
       have hlr := Hbu.out.own.lt
       have Hlr := Lib.hid hlr
       have hz5 := hb5.size
       have HBu5 := Lib.hid ((Hbu.out.below hb5 (Nat.le_refl _)).alloc (Obj.cells #[.slice A5 Lk'.length c5] 26))
       have Hap : Hid (Apart rpInt.slice (fun b => b < w9.heap.size) (w5.alloc (Obj.cells #[.slice A5 Lk'.length c5] 26)) (.slice A6 k n6) Lk' [.slice A5 Lk'.length c5]) := Lib.hid (Apart.of_only (base := wr.heap.size) ⟨_, rfl, SLint_own (ownsRow_only (Ho5.out.alloc _)) (by rw [only_size]; exact Nat.le_refl _)⟩ (fun k (h : k < w9.heap.size) => by omega) (fun g hg => by have := (Hlr.out g hg).2; omega))
       have Hbel5 := Lib.hid (Hbel.out.trans (hb5.mono hzq))
       clear hb5 hown5 hlr x0 lx
       have hwz5 : w9.heap.size ≤ w5.heap.size := by omega
       go_wp2_with (at_builtin; refine wpList_append_lies _ rfl _ _ 87 rfl w9.heap.size 26 iC _ 1 24 Tryz.underlying87 hiC zC0 zC1 zC2 rfl (by decide) (.slice A6 k n6) k css.flatten rfl (by have := HBu5.out.own; rw [Hll.out] at this; exact this) ⟨w5.heap.size, 0, none⟩ 1 1 [.slice A5 Lk'.length c5] rfl rfl ?_ ?_ (by decide) ?_ ?_ ?_ _ rfl ?_)
       any_goals (first | with_reducible exact World.news_of_block (cs := #[.slice A5 Lk'.length c5]) (t := 26) (fr := (0, 0)) (heap_alloc_new _ _) | (simp [Value.oneCell']; done) | (unfold maxLen; omega) | omega | (simp; done) | (simp; omega))
       intro gb cap w7' hown9 hgrow9 hat9 hlt9
       have HB9 := Lib.hid (HBu5.out.push hown9 (by rw [Hll.out]) hgrow9 (by simpa using hat9) Hap.out)
       have Hbel9 := Lib.hid ((Hbel5.out.alloc hwz5 _).trans ((Grew.of_grown hgrow9).below (B := w9.heap.size) (fun j hj e => by have := (Hlr.out j e).1; omega) (by simp; omega)))
       clear hown9 hgrow9 hat9 hlt9
       go_wp2
       go_roundg (r - (k + 1))
       case measure => omega
       case rel => exact ⟨k + 1, _, by omega, rfl, by go_num, by rw [Hst.out]; exact HB9, Hbel9⟩
      ·obtain rfl : k = r := by omega
       have k2 : ¬ ((k : Int) < (k : Int)) := by omega
       have hF := (Hbel.out.block _ (blk_lt HF10.out)).trans HF10.out
       have hlF : w.heap.size + 1 < w9.heap.size := blk_lt HF10.out
       obtain ⟨f0, f1⟩ := cells_blk hF
       have lF := blk_lt hF
       have z0 : wr.frozen? ⟨w.heap.size + 1, 0, none⟩ = false := by simp [World.frozen?, hF]
       have z1 : wr.frozen? ⟨w.heap.size + 1, 1, none⟩ = false := by simp [World.frozen?, hF]
       have hs1 := Hbu.out.SLF (b := w9.heap.size) (B := wr.heap.size) (fun k hk => hk) (Nat.le_refl _) (Nat.le_refl _)
       have hs2 := ((hs1.setCell ⟨w.heap.size + 1, 0, none⟩ hlF (.int .i64 0)).setCell ⟨w.heap.size + 1, 1, none⟩ hlF (.int .i64 0)).more (b' := w.heap.size) (B' := ((wr.setCell ⟨w.heap.size + 1, 0, none⟩ (.int .i64 0)).setCell ⟨w.heap.size + 1, 1, none⟩ (.int .i64 0)).heap.size) (by omega) (by simp [World.setCell])
       have hfin := HR.out _ _ (below_sets (Hb9.out.trans (Hbel.out.mono hz9)) [(⟨w.heap.size + 1, 0, none⟩, .int .i64 0), (⟨w.heap.size + 1, 1, none⟩, .int .i64 0)] (by simp)) hs2
       have Hfin := Lib.hid hfin
       clear hfin hs1 hs2 hF hlF
       rw [Hll.out] at Hfin ⊢
       go_wp2
       refine bodyPost_ret (v := .tuple #[.slice A6 k n6, (.agg #[.int .i64 (((0 : Int), (0 : Int))).1, .int .i64 (((0 : Int), (0 : Int))).2])]) (by simp [results, Tryz.results37, go_sem, f0, f1, lF]) rfl ?_
       exact Hfin.out
end Go.Proofs.YtdanebboiekieaaGreatDoor
