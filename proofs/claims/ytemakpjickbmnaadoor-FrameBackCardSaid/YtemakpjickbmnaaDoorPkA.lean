/- Package mac: sets of registers; what an instruction reads and writes; where it may go on. Live registers, plainly: sets that grow till nothing changes. Package mac: where it may go on; live registers. Package mac: live registers, listed. -/
import Derived.Test.YtemakpjickbmnaaDoorBase
import Derived.Test.YtemakpjickbmnaaDoorRows
import Derived.IntWalk
import Derived.Outline
import Derived.Deep.LoopGhost
import Derived.Test.YtemakpjickbmnaaDoorMacB
import Derived.Test.YtemakpjickbmnaaDoorCopyA
import Derived.Test.YtemakpjickbmnaaDoorPeepPl
import Derived.Laws.MakeOwn
import Derived.Deep.RegionHeld3
import Derived.Deep.AppendLies
import Derived.Deep.CutBlock
import Derived.Deep.DeepCutAuto
import Derived.Test.YtemakpjickbmnaaDoorAppA
import Derived.Test.YtemakpjickbmnaaDoorReadC
/- Package mac: sets of registers; what an instruction reads and writes; where it may go on. -/
namespace Go.Proofs.YtemakpjickbmnaaDoor
open Go.RowKit
set_option linter.unusedSimpArgs false
set_option linter.unusedVariables false

/-- A set of registers, as a number. -/
def bvI (x : BitVec 64) : Int := (x.toNat : Int)
theorem bvI_lt (x : BitVec 64) : 0 ≤ bvI x ∧ bvI x < 18446744073709551616 := by
  have := x.isLt
  unfold bvI
  omega
theorem bvI_of (x : BitVec 64) : BitVec.ofInt 64 (bvI x) = x := by
  unfold bvI
  apply BitVec.eq_of_toNat_eq
  rw [BitVec.toNat_ofInt]
  have := x.isLt
  omega
theorem bvI_inj {x y : BitVec 64} : bvI x = bvI y ↔ x = y := by
  constructor
  · intro h
    rw [← bvI_of x, h, bvI_of]
  · rintro rfl; rfl
theorem wrap_bv (x : BitVec 64) : IntKind.u64.wrap ((x.toNat : Nat) : Int) = bvI x := by
  have := x.isLt
  unfold bvI
  rw [IntKind.wrap_u64]
  omega
theorem bits_or (x y : BitVec 64) : bits .or .u64 (bvI x) (bvI y) = bvI (x ||| y) := by
  have e : bits .or .u64 (bvI x) (bvI y) = IntKind.u64.wrap ((BitVec.ofInt 64 (bvI x) ||| BitVec.ofInt 64 (bvI y)).toNat : Nat) := rfl
  rw [e, bvI_of, bvI_of, wrap_bv]
theorem bits_andNot (x y : BitVec 64) : bits .andNot .u64 (bvI x) (bvI y) = bvI (x &&& ~~~y) := by
  have e : bits .andNot .u64 (bvI x) (bvI y) = IntKind.u64.wrap ((BitVec.ofInt 64 (bvI x) &&& ~~~BitVec.ofInt 64 (bvI y)).toNat : Nat) := rfl
  rw [e, bvI_of, bvI_of, wrap_bv]
theorem bits_one (x : BitVec 64) (k : Nat) : bits .and .u64 (bvI x / 2 ^ k) 1 = if x.getLsbD k = true then 1 else 0 := by
  have e0 : bvI x / 2 ^ k = bvI (x >>> k) := by
    unfold bvI
    rw [BitVec.toNat_ushiftRight, Nat.shiftRight_eq_div_pow]
    simp
  have e : bits .and .u64 (bvI (x >>> k)) 1 = IntKind.u64.wrap ((BitVec.ofInt 64 (bvI (x >>> k)) &&& 1#64).toNat : Nat) := rfl
  rw [e0, e, bvI_of, wrap_bv]
  have h1 : (x >>> k) &&& 1#64 = if x.getLsbD k = true then 1#64 else 0#64 := by
    apply BitVec.eq_of_getLsbD_eq
    intro i hi
    rw [BitVec.getLsbD_and, BitVec.getLsbD_ushiftRight]
    cases h : x.getLsbD k
    · rw [if_neg (by simp), BitVec.getLsbD_zero]
      by_cases h0 : i = 0
      · subst h0; simp [h]
      · simp [BitVec.getLsbD_one, h0]
    · rw [if_pos rfl]
      by_cases h0 : i = 0
      · subst h0; simp [h]
      · simp [BitVec.getLsbD_one, h0]
  rw [h1]
  split <;> rfl
theorem shl_one {r : Int} (h0 : 0 ≤ r) (h1 : r ≤ 15) : IntKind.u64.wrap (2 ^ r.toNat) = bvI (1#64 <<< r.toNat) := by
  obtain ⟨k, rfl⟩ : ∃ k : Nat, r = (k : Int) := ⟨r.toNat, by omega⟩
  have : ∀ k : Nat, k < 16 → IntKind.u64.wrap (2 ^ k) = bvI (1#64 <<< k) := by decide +kernel
  exact this k (by omega)

/-- What an instruction reads and writes, as sets. -/
def readsV (m : Mac) : BitVec 64 := if m.op = 44 then 63#64 else if m.op = 45 then 16321#64 else
  (if (shapeOf m.op).a = true then 1#64 <<< m.a.toNat else 0#64) ||| (if (shapeOf m.op).b = true then 1#64 <<< m.b.toNat else 0#64)
def writesV (m : Mac) : BitVec 64 := if m.op = 44 then 49215#64 else if (shapeOf m.op).d = true then 1#64 <<< m.dst.toNat else 0#64
theorem one_at {a : Int} (h0 : 0 ≤ a) (h1 : a ≤ 15) (r : Nat) : (1#64 <<< a.toNat).getLsbD r = decide (a = (r : Int)) := by
  rw [BitVec.getLsbD_shiftLeft, BitVec.getLsbD_one]
  by_cases h : a = (r : Int)
  · simp [h]; omega
  · simp [h]; omega
theorem readsV_at {m : Mac} {len : Nat} (hm : MacOk m len) {r : Nat} (hr : r < 16) : (readsV m).getLsbD r = readsM m r := by
  unfold readsV readsM
  split
  · have : ∀ r : Nat, r < 16 → (63#64).getLsbD r = decide (r < 6) := by decide +kernel
    exact this r hr
  split
  · have : ∀ r : Nat, r < 16 → (16321#64).getLsbD r = decide (r = 0 ∨ (6 ≤ r ∧ r < 14)) := by decide +kernel
    exact this r hr
  rw [BitVec.getLsbD_or]
  congr 1
  · cases (shapeOf m.op).a
    · simp
    · rw [if_pos rfl, one_at hm.a0 hm.a1, Bool.true_and]
  · cases (shapeOf m.op).b
    · simp
    · rw [if_pos rfl, one_at hm.b0 hm.b1, Bool.true_and]
theorem writesV_at {m : Mac} {len : Nat} (hm : MacOk m len) {r : Nat} (hr : r < 16) : (writesV m).getLsbD r = writesM m r := by
  unfold writesV writesM
  split
  · have : ∀ r : Nat, r < 16 → (49215#64).getLsbD r = decide (r < 6 ∨ 14 ≤ r) := by decide +kernel
    exact this r hr
  · cases (shapeOf m.op).d
    · simp
    · rw [if_pos rfl, one_at hm.dst0 hm.dst1, Bool.true_and]
theorem readsV_lt {m : Mac} {len : Nat} (hm : MacOk m len) {r : Nat} (hr : 16 ≤ r) : (readsV m).getLsbD r = false := by
  have hb : ∀ x : BitVec 64, x.toNat < 65536 → x.getLsbD r = false := fun x hx => by
    rw [BitVec.getLsbD, Nat.testBit_lt_two_pow]
    exact Nat.lt_of_lt_of_le hx (show 2 ^ 16 ≤ 2 ^ r from Nat.pow_le_pow_right (by decide) hr)
  unfold readsV
  split
  · exact hb _ (by decide)
  split
  · exact hb _ (by decide)
  rw [BitVec.getLsbD_or, Bool.or_eq_false_iff]
  constructor
  · split
    · rw [one_at hm.a0 hm.a1]; have := hm.a1; simp; omega
    · simp
  · split
    · rw [one_at hm.b0 hm.b1]; have := hm.b1; simp; omega
    · simp
set_option maxHeartbeats 400000 in
theorem span_calls (lo hi v : Int) (hv : (lo = 0 ∧ hi = 5 ∧ v = 63) ∨ (lo = 6 ∧ hi = 13 ∧ v = 16320) ∨ (lo = 14 ∧ hi = 15 ∧ v = 49152)) (w : World) (R : Ending → World → Prop) (hR : ∀ w', Below w.heap.size w w' → R (.returned (.int .u64 v)) w') :
    Calls Tryd.prog 162 #[.int .i64 lo, .int .i64 hi] w R := by
  rcases hv with ⟨rfl, rfl, rfl⟩ | ⟨rfl, rfl, rfl⟩ | ⟨rfl, rfl, rfl⟩
  all_goals
    have HR := Lib.hid hR
    clear hR
    go_enter Tryd.func162, Tryd.ntmps162
    go_wp2
    go_quiet (fail)
    go_wp2
    exact HR.out _ bl0
theorem or_zero_left (x : BitVec 64) : bits .or .u64 0 (bvI x) = bvI x := by
  have := bits_or 0#64 x
  rw [BitVec.zero_or] at this
  exact this
theorem or_one1 (x : BitVec 64) : bits .or .u64 0 (bvI x) = bvI (x ||| 0#64) := by rw [or_zero_left, BitVec.or_zero]
theorem or_one2 (x : BitVec 64) : bits .or .u64 0 (bvI x) = bvI (0#64 ||| x) := by rw [or_zero_left, BitVec.zero_or]
theorem or_one3 (x y : BitVec 64) : bits .or .u64 (bits .or .u64 0 (bvI x)) (bvI y) = bvI (x ||| y) := by rw [or_zero_left, bits_or]
set_option maxHeartbeats 1000000 in
theorem reads_calls (m : Mac) {len : Nat} (hm : MacOk m len) (w : World) (hS : Shapes w) (R : Ending → World → Prop) (hR : ∀ w', Below w.heap.size w w' → R (.returned (.int .u64 (bvI (readsV m)))) w') :
    Calls Tryd.prog 157 #[.agg #[.int .i64 m.op, .int .i64 m.dst, .int .i64 m.a, .int .i64 m.b, .int .i64 m.n]] w R := by
  have h0 := hS.1
  have HS := Lib.hid hS
  clear hS
  unfold readsV at hR
  by_cases h44 : m.op = 44
  · rw [if_pos h44] at hR
    have HR := Lib.hid hR
    have i44 : (m.op == 44) = true := by simpa using h44
    clear hR h44
    go_enter Tryd.func157, Tryd.ntmps157
    go_wp2_with (go_at_call 162; refine span_calls 0 5 63 (.inl ⟨rfl, rfl, rfl⟩) _ _ (fun w1 hb1 => ?_))
    exact HR.out _ bl0
  rw [if_neg h44] at hR
  have i44 : (m.op == 44) = false := by simpa using h44
  clear h44
  by_cases h45 : m.op = 45
  · rw [if_pos h45] at hR
    have HR := Lib.hid hR
    have i45 : (m.op == 45) = true := by simpa using h45
    clear hR h45
    go_enter Tryd.func157, Tryd.ntmps157
    go_wp2_with (go_at_call 162; refine span_calls 6 13 16320 (.inr (.inl ⟨rfl, rfl, rfl⟩)) _ _ (fun w1 hb1 => ?_))
    exact HR.out _ bl0
  rw [if_neg h45] at hR
  have i45 : (m.op == 45) = false := by simpa using h45
  clear h45
  have ea := shl_one hm.a0 hm.a1
  have eb := shl_one hm.b0 hm.b1
  have a0 := hm.a0
  have a1 := hm.a1
  have b0 := hm.b0
  have b1 := hm.b1
  have a2 : m.a < 64 := by omega
  have b2 : m.b < 64 := by omega
  generalize hA : 1#64 <<< m.a.toNat = A at *
  generalize hB : 1#64 <<< m.b.toNat = B at *
  have HR := Lib.hid hR
  have EA := Lib.hid ea
  have EB := Lib.hid eb
  clear hR hA hB ea eb
  go_enter Tryd.func157, Tryd.ntmps157
  go_wp2_with fail
  refine Of_calls _ _ (HS.out.up (bl0) h0) _ ?_
  intro w1 hb1
  generalize shapeOf m.op = s at *
  obtain ⟨sd, sa, sb, sn⟩ := s
  unfold Shape.val
  obtain ⟨hc1, hf1⟩ := bcell hb1
  have hz : w.heap.size < w1.heap.size := by have := hb1.size; simp at this; omega
  have p2 : w1.cell? ⟨w.heap.size, 2, none⟩ = some (.int .i64 m.a) := by rw [hc1 _ _ (by simp)]; simp
  have p3 : w1.cell? ⟨w.heap.size, 3, none⟩ = some (.int .i64 m.b) := by rw [hc1 _ _ (by simp)]; simp
  have e1 := Lib.hid (or_one1 A)
  have e2 := Lib.hid (or_one2 B)
  have e3 := Lib.hid (or_one3 A B)
  cases sa <;> cases sb
  · go_wp2
    have h := HR.out
    simp only [Bool.false_eq_true, if_false, BitVec.or_zero] at h
    exact h _ bl0
  · go_wp2
    rw [EB.out, e2.out]
    exact HR.out _ bl0
  · go_wp2
    rw [EA.out, e1.out]
    exact HR.out _ bl0
  · go_wp2
    rw [EA.out, EB.out, e3.out]
    exact HR.out _ bl0
set_option maxRecDepth 100000 in
set_option maxHeartbeats 1000000 in
theorem writes_calls (m : Mac) {len : Nat} (hm : MacOk m len) (w : World) (hS : Shapes w) (R : Ending → World → Prop) (hR : ∀ w', Below w.heap.size w w' → R (.returned (.int .u64 (bvI (writesV m)))) w') :
    Calls Tryd.prog 158 #[.agg #[.int .i64 m.op, .int .i64 m.dst, .int .i64 m.a, .int .i64 m.b, .int .i64 m.n]] w R := by
  have h0 := hS.1
  have HS := Lib.hid hS
  clear hS
  unfold writesV at hR
  have ea := shl_one hm.dst0 hm.dst1
  have a0 := hm.dst0
  have a1 := hm.dst1
  have a2 : m.dst < 64 := by omega
  generalize hA : 1#64 <<< m.dst.toNat = A at *
  have EA := Lib.hid ea
  clear hA ea
  by_cases h44 : m.op = 44
  · rw [if_pos h44] at hR
    have HR := Lib.hid hR
    have i44 : (m.op == 44) = true := by simpa using h44
    clear hR h44
    go_enter Tryd.func158, Tryd.ntmps158
    go_wp2_with fail
    refine Of_calls _ _ (HS.out.up (bl0) h0) _ ?_
    intro w1 hb1
    obtain ⟨hc1, hf1⟩ := bcell hb1
    have hz : w.heap.size < w1.heap.size := by have := hb1.size; simp at this; omega
    have p0 : w1.cell? ⟨w.heap.size, 0, none⟩ = some (.int .i64 m.op) := by rw [hc1 _ _ (by simp)]; simp
    unfold Shape.val
    go_wp2_with (go_at_call 162; first | with_reducible refine span_calls 0 5 63 (.inl ⟨rfl, rfl, rfl⟩) _ _ (fun w2 hb2 => ?_); (have hz2 := hb2.size); simp at hz2 | with_reducible refine span_calls 14 15 49152 (.inr (.inr ⟨rfl, rfl, rfl⟩)) _ _ (fun w3 hb3 => ?_))
    exact HR.out _ bl0
  rw [if_neg h44] at hR
  have HR := Lib.hid hR
  have i44 : (m.op == 44) = false := by simpa using h44
  clear hR h44
  go_enter Tryd.func158, Tryd.ntmps158
  go_wp2_with fail
  refine Of_calls _ _ (HS.out.up (bl0) h0) _ ?_
  intro w1 hb1
  obtain ⟨hc1, hf1⟩ := bcell hb1
  have hz : w.heap.size < w1.heap.size := by have := hb1.size; simp at this; omega
  have p0 : w1.cell? ⟨w.heap.size, 0, none⟩ = some (.int .i64 m.op) := by rw [hc1 _ _ (by simp)]; simp
  have p1 : w1.cell? ⟨w.heap.size, 1, none⟩ = some (.int .i64 m.dst) := by rw [hc1 _ _ (by simp)]; simp
  generalize shapeOf m.op = s at *
  obtain ⟨sd, sa, sb, sn⟩ := s
  unfold Shape.val
  cases sd
  · go_wp2
    have h := HR.out
    simp only [Bool.false_eq_true, if_false] at h
    exact h _ bl0
  · go_wp2
    rw [EA.out]
    exact HR.out _ bl0

/-- The registers of a set, in order. -/
def bvTo (x : BitVec 64) (k : Nat) : List Int := ((List.range k).filter (fun r => x.getLsbD r)).map Int.ofNat
def bvL (x : BitVec 64) : List Int := bvTo x 16
theorem bvTo_step (x : BitVec 64) (k : Nat) : bvTo x (k + 1) = bvTo x k ++ (if x.getLsbD k = true then [(k : Int)] else []) := by
  unfold bvTo
  rw [List.range_succ, List.filter_append, List.map_append]
  cases h : x.getLsbD k <;> simp [List.filter_cons, h]
theorem bvTo_len (x : BitVec 64) (k : Nat) : (bvTo x k).length ≤ k := by
  unfold bvTo
  rw [List.length_map]
  exact Nat.le_trans (List.length_filter_le _ _) (by rw [List.length_range]; exact Nat.le_refl _)
set_option maxHeartbeats 1000000 in
theorem list_calls (x : BitVec 64) (w : World) (R : Ending → World → Prop) (hR : ∀ w' v', Below w.heap.size w w' → w'.ownsRow w.heap.size 3 1 v' (bvL x).length ((bvL x).flatMap intCells) → R (.returned v') w') :
    Calls Tryd.prog 150 #[.int .u64 (bvI x)] w R := by
  have HR := Lib.hid hR
  clear hR
  obtain ⟨i0, hi0, hz0, hz1, hz2⟩ := info_parts info_int3
  go_enter Tryd.func150, Tryd.ntmps150
  go_wp2
  go_loopg [3, 5] 16 (fun g v i wr => ∃ k : Nat, k ≤ 16 ∧ g = 16 - k ∧ i = .int .i64 k ∧ Below w.heap.size w wr ∧ wr.ownsRow w.heap.size 3 1 v (bvTo x k).length ((bvTo x k).flatMap intCells))
  case atStart => exact ⟨0, by omega, rfl, rfl, Below.refl _ _, World.ownsRow_nil _ _ _ _⟩
  case round =>
    obtain ⟨k, hk, rfl, rfl, hbel, hown⟩ := hrel
    by_cases hlt : k < 16
    · have hst := bvTo_step x k
      have hll := bvTo_len x k
      generalize hL : bvTo x k = L at *
      generalize hL2 : bvTo x (k + 1) = L2 at *
      have HL2 := Lib.hid hL2
      clear hL hL2
      have Hb := Lib.hid hbel
      have Ho := Lib.hid hown
      have hz := hbel.size
      obtain ⟨A, c, rfl⟩ := own_slice hown
      clear hbel hown
      have i1 : (k : Int) < 16 := by omega
      have i2 : (0 : Int) ≤ (k : Int) := by omega
      have i3 : (k : Int) < 64 := by omega
      have hone := bits_one x k
      cases hx : x.getLsbD k
      · rw [hx] at hone hst
        have Hst := Lib.hid (show L2 = L by rw [hst]; simp)
        have Hone := Lib.hid (show (bits .and .u64 (bvI x / 2 ^ k) 1 == 1) = false by rw [hone]; rfl)
        have hone2 := Hone.out
        clear hone hst hx
        go_wp2
        go_roundg (16 - (k + 1))
        case measure => omega
        case rel => exact ⟨k + 1, by omega, rfl, by go_num, Hb.out, by rw [HL2.out, Hst.out]; exact Ho.out⟩
      · rw [hx, if_pos rfl] at hone hst
        have Hst := Lib.hid hst
        have Hone := Lib.hid (show (bits .and .u64 (bvI x / 2 ^ k) 1 == 1) = true by rw [hone]; rfl)
        have hone2 := Hone.out
        clear hone hst hx
        go_wp2_with (at_builtin; refine wpList_append_own _ rfl _ _ 22 rfl w.heap.size 3 i0 _ 1 8 Tryd.underlying22 hi0 hz0 hz1 hz2 rfl (by decide) (.slice A L.length c) L.length (L.flatMap intCells) rfl (Ho.out.alloc _) ⟨wr.heap.size, 0, none⟩ 1 1 [.int .i64 (k : Int)] rfl rfl ?_ ?_ ?_ ?_ ?_ ?_)
        any_goals first | exact World.news_of_block (cs := #[.int .i64 (k : Int)]) (t := 3) (fr := (0, 0)) (heap_alloc_new wr _) | (simp [Value.oneCell']; done) | (unfold maxLen; omega) | omega | (simp; done) | (simp; omega)
        · intro v' w2 hown2 hgrow _
          have hb2 : Below w.heap.size w w2 := (Hb.out.alloc (by omega) (Obj.cells #[.int .i64 (k : Int)] 3)).grown hgrow (by simp; omega) (fun k hk => (Ho.out.lt k hk).1)
          have H1 := Lib.hid (And.intro hown2 hb2)
          clear hown2 hb2 hgrow
          go_wp2
          go_roundg (16 - (k + 1))
          case measure => omega
          case rel => exact ⟨k + 1, by omega, rfl, by go_num, H1.out.2, by rw [HL2.out, Hst.out, List.length_append, List.flatMap_append]; exact H1.out.1⟩
    · obtain rfl : k = 16 := by omega
      have H1 := Lib.hid (HR.out _ _ hbel hown)
      clear hbel hown
      go_wp2
      exact H1.out
end Go.Proofs.YtemakpjickbmnaaDoor

/- Live registers, plainly: sets that grow till nothing changes. -/
namespace Go.Proofs.YtemakpjickbmnaaDoor
open Go.RowKit
set_option linter.unusedSimpArgs false
set_option linter.unusedVariables false

/-- Where it may go on behind an instruction. -/
def nextL (l : List Mac) (i : Nat) : List Int :=
  if (atL l i).op = 45 then [] else if (atL l i).op = 37 then [(atL l i).n] else if jumpsM (atL l i) = true then [(i : Int) + 1, (atL l i).n] else [(i : Int) + 1]
theorem nextL_iff {l : List Mac} {i k : Nat} (hi : i < l.length) : (k : Int) ∈ nextL l i ↔ stepsTo l i k := by
  unfold nextL stepsTo
  by_cases h45 : (atL l i).op = 45
  · rw [if_pos h45]
    have hj : ¬ jumpsM (atL l i) = true := by unfold jumpsM; simp; omega
    simp [h45, hj]
  rw [if_neg h45]
  by_cases h37 : (atL l i).op = 37
  · rw [if_pos h37]
    have hj : jumpsM (atL l i) = true := by unfold jumpsM; simp; omega
    simp [h37, hj, hi]
    exact eq_comm
  rw [if_neg h37]
  by_cases hj : jumpsM (atL l i) = true
  · rw [if_pos hj]
    simp only [List.mem_cons, List.not_mem_nil, or_false, hj, true_and, hi, h45, h37, not_false_eq_true, ne_eq]
    constructor
    · rintro (e | e)
      · exact .inl (by omega)
      · exact .inr e.symm
    · rintro (e | e)
      · exact .inl (by omega)
      · exact .inr e.symm
  · rw [if_neg hj]
    have hj' : jumpsM (atL l i) = false := by simpa using hj
    simp [hj', hi, h45, h37]
    omega
theorem nextL_lt {l : List Mac} (h : MacsOk l) {i : Nat} (hi : i < l.length) : ∀ x ∈ nextL l i, 0 ≤ x ∧ x < (l.length : Int) := by
  intro x hx
  have hm := h.at_ hi
  unfold nextL at hx
  split at hx
  · cases hx
  rename_i h45
  split at hx
  · rename_i h37
    have := hm.jump (by omega) (by omega)
    simp at hx
    omega
  rename_i h37
  have hl := op_not_last h hi h37 h45
  split at hx
  · rename_i hj
    have hj' : 37 ≤ (atL l i).op ∧ (atL l i).op ≤ 43 := by unfold jumpsM at hj; simpa using hj
    have := hm.jump hj'.1 hj'.2
    simp at hx
    omega
  · simp at hx
    omega
theorem nextL_len (l : List Mac) (i : Nat) : (nextL l i).length ≤ 2 := by
  unfold nextL
  split
  · simp
  split
  · simp
  split <;> simp

/-- A set. -/
def inS (x : BitVec 64) (r : Nat) : Bool := x.getLsbD r
def atV (V : List (BitVec 64)) (i : Nat) : BitVec 64 := V.getD i 0#64
def orTo (V : List (BitVec 64)) (ks : List Int) : BitVec 64 := ks.foldl (fun b k => b ||| atV V k.toNat) 0#64
theorem orTo_snoc (V : List (BitVec 64)) (ks : List Int) (k : Int) : orTo V (ks ++ [k]) = orTo V ks ||| atV V k.toNat := by
  unfold orTo
  rw [List.foldl_append]
  rfl
theorem orTo_at (V : List (BitVec 64)) (r : Nat) : ∀ ks : List Int, (orTo V ks).getLsbD r = true ↔ ∃ k ∈ ks, (atV V k.toNat).getLsbD r = true := by
  intro ks
  have key : ∀ (ks : List Int) (b : BitVec 64), (ks.foldl (fun b k => b ||| atV V k.toNat) b).getLsbD r = true ↔ b.getLsbD r = true ∨ ∃ k ∈ ks, (atV V k.toNat).getLsbD r = true := by
    intro ks
    induction ks with
    | nil => intro b; simp
    | cons k ks ih =>
      intro b
      rw [List.foldl_cons, ih, BitVec.getLsbD_or, Bool.or_eq_true]
      simp [or_assoc]
  have := key ks 0#64
  rw [BitVec.getLsbD_zero] at this
  simpa [orTo] using this
/-- What an instruction's set becomes. -/
def stepV (rd wr b : BitVec 64) : BitVec 64 := rd ||| (b &&& ~~~wr)
theorem stepV_at (rd wr b : BitVec 64) {r : Nat} (hr : r < 64) : (stepV rd wr b).getLsbD r = (rd.getLsbD r || (b.getLsbD r && !wr.getLsbD r)) := by
  unfold stepV
  rw [BitVec.getLsbD_or, BitVec.getLsbD_and, BitVec.getLsbD_not]
  simp [hr]
def subV (x y : BitVec 64) : Prop := ∀ r, x.getLsbD r = true → y.getLsbD r = true
theorem subV_le {x y : BitVec 64} (h : subV x y) : x.toNat ≤ y.toNat := by
  have e : x &&& y = x := by
    apply BitVec.eq_of_getLsbD_eq
    intro i hi
    rw [BitVec.getLsbD_and]
    cases hx : x.getLsbD i
    · rfl
    · rw [h i hx]; rfl
  rw [← e, BitVec.toNat_and]
  exact Nat.and_le_right
theorem subV_lt {x y : BitVec 64} (h : subV x y) (hne : y ≠ x) : x.toNat < y.toNat := by
  have := subV_le h
  rcases Nat.lt_or_ge x.toNat y.toNat with h1 | h1
  · exact h1
  · exact absurd (BitVec.eq_of_toNat_eq (by omega)) hne
theorem small_V {x : BitVec 64} (h : ∀ r, 16 ≤ r → x.getLsbD r = false) : x.toNat < 65536 := by
  have h1 : x.toNat < 2 ^ 16 := by
    apply Nat.lt_pow_two_of_testBit
    intro i hi
    exact h i hi
  exact h1
/-- How many may still come. -/
def restV (V : List (BitVec 64)) : Nat := (V.map fun x => 65536 - x.toNat).sum
theorem restV_set {V : List (BitVec 64)} : ∀ {V : List (BitVec 64)} {i : Nat} {x : BitVec 64}, i < V.length → (atV V i).toNat < x.toNat → (atV V i).toNat < 65536 → restV (V.set i x) < restV V
  | y :: V, 0, x, _, h, h2 => by
    simp [atV] at h h2
    simp [restV]
    omega
  | y :: V, i + 1, x, hi, h, h2 => by
    have := restV_set (V := V) (i := i) (x := x) (by simpa using hi) (by simpa [atV] using h) (by simpa [atV] using h2)
    simp [restV] at this ⊢
    omega
theorem atV_set {V : List (BitVec 64)} {i k : Nat} {x : BitVec 64} (h : i < V.length) : atV (V.set i x) k = if k = i then x else atV V k := by
  unfold atV
  rw [List.getD_eq_getElem?_getD, List.getD_eq_getElem?_getD, List.getElem?_set]
  by_cases e : i = k
  · subst e
    rw [if_pos rfl, if_pos h, if_pos rfl]
    rfl
  · rw [if_neg e, if_neg (fun x => e x.symm)]

/-- Sets of what is read and written, as an instruction has it. -/
structure RW (l : List Mac) (rd wr : Nat → BitVec 64) : Prop where
  rdAt : ∀ i, i < l.length → ∀ r, r < 16 → (rd i).getLsbD r = readsM (atL l i) r
  wrAt : ∀ i, i < l.length → ∀ r, r < 16 → (wr i).getLsbD r = writesM (atL l i) r
  big : ∀ i, i < l.length → ∀ r, 16 ≤ r → (rd i).getLsbD r = false
def nextV (l : List Mac) (rd wr : Nat → BitVec 64) (V : List (BitVec 64)) (i : Nat) : BitVec 64 := stepV (rd i) (wr i) (orTo V (nextL l i))
/-- What holds of the sets on the way. -/
structure GoodV (l : List Mac) (rd wr : Nat → BitVec 64) (V : List (BitVec 64)) : Prop where
  len : V.length = l.length
  big : ∀ i r, 16 ≤ r → (atV V i).getLsbD r = false
  sound : ∀ i r, r < 16 → i < l.length → (atV V i).getLsbD r = true → Live l r i
  grow : ∀ i, i < l.length → subV (atV V i) (nextV l rd wr V i)
theorem bit_lt {x : BitVec 64} {r : Nat} (h : x.getLsbD r = true) : r < 64 := BitVec.lt_of_getLsbD h
theorem nextV_mono {l : List Mac} {rd wr : Nat → BitVec 64} {V V' : List (BitVec 64)} (h : ∀ i, subV (atV V i) (atV V' i)) (i : Nat) : subV (nextV l rd wr V i) (nextV l rd wr V' i) := by
  intro r hr
  have h64 := bit_lt hr
  unfold nextV at hr ⊢
  rw [stepV_at _ _ _ h64] at hr ⊢
  simp only [Bool.or_eq_true, Bool.and_eq_true] at hr ⊢
  rcases hr with hr | ⟨hr, hw⟩
  · exact .inl hr
  · refine .inr ⟨?_, hw⟩
    rw [orTo_at] at hr ⊢
    obtain ⟨k, hk, hx⟩ := hr
    exact ⟨k, hk, h _ r hx⟩
theorem atV_out {V : List (BitVec 64)} {i : Nat} (h : V.length ≤ i) : atV V i = 0#64 := by
  unfold atV
  rw [List.getD_eq_getElem?_getD, List.getElem?_eq_none h]
  rfl
theorem GoodV.first {l : List Mac} {rd wr : Nat → BitVec 64} : GoodV l rd wr (List.replicate l.length 0#64) := by
  have h0 : ∀ i, atV (List.replicate l.length 0#64) i = 0#64 := fun i => by
    unfold atV
    rw [List.getD_eq_getElem?_getD, List.getElem?_replicate]
    split <;> rfl
  refine ⟨List.length_replicate, fun i r _ => by rw [h0]; simp, fun i r _ _ h => by rw [h0] at h; simp at h, fun i _ r h => by rw [h0] at h; simp at h⟩
theorem GoodV.step {l : List Mac} (hl : MacsOk l) {rd wr : Nat → BitVec 64} (hrw : RW l rd wr) {V : List (BitVec 64)} (h : GoodV l rd wr V) {i : Nat} (hi : i < l.length) : GoodV l rd wr (V.set i (nextV l rd wr V i)) := by
  have hiV : i < V.length := by rw [h.len]; exact hi
  have hbig : ∀ r, 16 ≤ r → (nextV l rd wr V i).getLsbD r = false := fun r hr => by
    cases hx : (nextV l rd wr V i).getLsbD r
    · rfl
    · have h64 := bit_lt hx
      unfold nextV at hx
      rw [stepV_at _ _ _ h64, hrw.big i hi r hr, Bool.false_or, Bool.and_eq_true, orTo_at] at hx
      obtain ⟨⟨k, _, hk⟩, _⟩ := hx
      rw [h.big _ r hr] at hk
      cases hk
  have hsub : ∀ k, subV (atV V k) (atV (V.set i (nextV l rd wr V i)) k) := fun k r hr => by
    rw [atV_set hiV]
    by_cases e : k = i
    · rw [if_pos e]; subst e; exact h.grow k hi r hr
    · rw [if_neg e]; exact hr
  refine ⟨by rw [List.length_set]; exact h.len, fun k r hr => ?_, fun k r hr hk hx => ?_, fun k hk r hr => ?_⟩
  · rw [atV_set hiV]
    by_cases e : k = i
    · rw [if_pos e]; exact hbig r hr
    · rw [if_neg e]; exact h.big k r hr
  · rw [atV_set hiV] at hx
    by_cases e : k = i
    · rw [if_pos e] at hx
      subst e
      unfold nextV at hx
      rw [stepV_at _ _ _ (by omega), hrw.rdAt k hi r hr, hrw.wrAt k hi r hr, Bool.or_eq_true, Bool.and_eq_true, orTo_at] at hx
      rcases hx with hx | ⟨⟨t, ht, hx⟩, hw⟩
      · exact .use hi hx
      · have ht0 := nextL_lt hl hi t ht
        refine .via (k := t.toNat) hi (by simpa using hw) ((nextL_iff hi).1 (by rwa [Int.toNat_of_nonneg ht0.1])) (h.sound _ r hr (by omega) hx)
    · rw [if_neg e] at hx
      exact h.sound k r hr hk hx
  · refine nextV_mono hsub k r ?_
    rw [atV_set hiV] at hr
    by_cases e : k = i
    · rw [if_pos e] at hr; subst e; exact hr
    · rw [if_neg e] at hr; exact h.grow k hk r hr
theorem GoodV.less {l : List Mac} {rd wr : Nat → BitVec 64} {V : List (BitVec 64)} (h : GoodV l rd wr V) {i : Nat} (hi : i < l.length) (hne : nextV l rd wr V i ≠ atV V i) : restV (V.set i (nextV l rd wr V i)) < restV V :=
  restV_set (V := V) (by rw [h.len]; exact hi) (subV_lt (h.grow i hi) hne) (small_V (h.big i))
/-- At the end they are what is live. -/
theorem GoodV.done {l : List Mac} (hl : MacsOk l) {rd wr : Nat → BitVec 64} (hrw : RW l rd wr) {V : List (BitVec 64)} (h : GoodV l rd wr V) (hc : ∀ i, i < l.length → nextV l rd wr V i = atV V i) {i r : Nat} (hi : i < l.length) (hr : r < 16) : (atV V i).getLsbD r = liveB l i r := by
  have back : Live l r i → (atV V i).getLsbD r = true := fun hL => by
    induction hL with
    | use hi hx =>
      rw [← hc _ hi, nextV, stepV_at _ _ _ (by omega), hrw.rdAt _ hi r hr, hx]
      rfl
    | @via j k hi hw hs _ ih =>
      have hk : k < l.length := by
        have := nextL_lt hl hi k ((nextL_iff hi).2 hs)
        omega
      rw [← hc _ hi, nextV, stepV_at _ _ _ (by omega), hrw.wrAt _ hi r hr, hw]
      have : (orTo V (nextL l j)).getLsbD r = true := (orTo_at V r _).2 ⟨k, (nextL_iff hi).2 hs, by simpa using ih hk⟩
      rw [this]
      simp
  cases hx : (atV V i).getLsbD r
  · cases hy : liveB l i r
    · rfl
    · rw [back (liveB_iff.1 hy)] at hx
      cases hx
  · exact (liveB_iff.2 (h.sound i r hr hi hx)).symm
end Go.Proofs.YtemakpjickbmnaaDoor

/- Package mac: where it may go on; live registers. -/
namespace Go.Proofs.YtemakpjickbmnaaDoor
open Go.RowKit
set_option linter.unusedSimpArgs false
set_option linter.unusedVariables false

/-- A fresh row of ints, whole. -/
theorem ints_blk {w : World} {g B : Nat} {xs : List Int} {T : TypeId} {fr : Nat × Nat} (h : w.heap[g]? = some (.cells (xs.map (Value.int .i64)).toArray T fr)) (hB : w.heap.size ≤ B) (hm : xs.length ≤ maxLen) :
    rpInt.SL w B xs (.slice (some ⟨g, 0, none⟩) xs.length xs.length) := by
  refine ⟨_, _, rfl, hm, Nat.le_refl _, fun _ => ⟨g, 0, rfl, by have := blk_lt h; omega, fun k x hk => ⟨_, rfl, fun j u hj => ?_⟩⟩⟩
  cases j with
  | zero =>
    simp at hj
    subst hj
    have : w.cell? ⟨g, k, none⟩ = some (.int .i64 x) := by simp [World.cell?, h, hk]
    simpa [rpInt] using this
  | succ j => simp at hj
theorem heap_new {w : World} {o : Obj} {n : Nat} (hn : w.heap.size = n) : (w.alloc o).heap[n]? = some o := by subst hn; exact heap_alloc_new _ _
theorem shape_jump {m : Mac} {len : Nat} (hm : MacOk m len) : ((shapeOf m.op).n == 2) = jumpsM m := by
  have := shape_n m.op hm.op1 hm.op47
  unfold jumpsM
  rw [Bool.eq_iff_iff, beq_iff_eq, this]
  simp
set_option maxHeartbeats 1000000 in
theorem Next_calls (v : Value) (l : List Mac) (i : Nat) (hi : i < l.length) (hok : MacsOk l) (w : World) (h : rpMac.SL w w.heap.size l v) (hS : Shapes w) (R : Ending → World → Prop)
    (hR : ∀ w' v', Below w.heap.size w w' → rpInt.SL w' w'.heap.size (nextL l i) v' → (nextL l i = [] → v' = .slice none 0 0) → R (.returned v') w') :
    Calls Tryd.prog 126 #[v, .int .i64 (i : Int)] w R := by
  have h0 := hS.1
  have hm := hok.at_ hi
  have hfew := hok.few
  obtain ⟨A, c, rfl, hmx, hcap, hs⟩ := h.cases_
  obtain ⟨b, off, m, rfl, hb, e, c0, c1, c2, c3, c4⟩ := hs.mac_at hi
  have em : atL l i = m := by
    rw [atL_get hi]
    rw [List.getElem?_eq_getElem hi] at e
    exact Option.some.inj e
  unfold nextL at hR
  rw [em] at hm hR
  have hsj := Lib.hid (shape_jump hm)
  have HS := Lib.hid hS
  have HR := Lib.hid hR
  have i0 : (0 : Int) ≤ (i : Int) := by omega
  have i1 : (i : Int) < (l.length : Int) := by omega
  have i2 : (i : Int) + 1 ≤ 9223372036854775807 := by omega
  clear hS hR hs h e em hok
  go_enter Tryd.func126, Tryd.ntmps126
  go_wp2_with fail
  refine Of_calls _ _ (HS.out.up (bl0) h0) _ ?_
  intro w1 hb1
  obtain ⟨hc1, hf1⟩ := bcell hb1
  have hz : w.heap.size < w1.heap.size := by have := hb1.size; simp at this; omega
  have p0 : w1.cell? ⟨w.heap.size, 0, none⟩ = some (.int .i64 m.op) := by rw [hc1 _ _ (by simp)]; simp
  have p4 : w1.cell? ⟨w.heap.size, 4, none⟩ = some (.int .i64 m.n) := by rw [hc1 _ _ (by simp)]; simp
  generalize shapeOf m.op = s at *
  obtain ⟨sd, sa, sb, sn⟩ := s
  unfold Shape.val
  by_cases h45 : m.op = 45
  · have HR2 := HR.out
    simp only [if_pos h45] at HR2
    have HR3 := Lib.hid HR2
    have i45 : (m.op == 45) = true := by simpa using h45
    clear HR2 h45
    go_wp2
    exact HR3.out _ _ bl0 (Rp.SL.nil _ _ _) (fun _ => rfl)
  have HR2 := HR.out
  simp only [if_neg h45] at HR2
  have i45 : (m.op == 45) = false := by simpa using h45
  by_cases h37 : m.op = 37
  · simp only [if_pos h37] at HR2
    have HR3 := Lib.hid HR2
    have i37 : (m.op == 37) = true := by simpa using h37
    clear HR2 h45 h37 HR
    go_wp2
    exact HR3.out _ _ bl0 (ints_blk (xs := [m.n]) (heap_new (by simp)) (Nat.le_refl _) (by unfold maxLen; simp)) (fun h => by cases h)
  simp only [if_neg h37] at HR2
  have i37 : (m.op == 37) = false := by simpa using h37
  cases hj : jumpsM m
  · simp only [hj, Bool.false_eq_true, if_false] at HR2
    have HR3 := Lib.hid HR2
    have hs2 := hsj.out
    rw [hj] at hs2
    simp only at hs2
    clear HR2 h45 h37 HR hj hsj
    go_wp2
    exact HR3.out _ _ bl0 (ints_blk (xs := [(i : Int) + 1]) (heap_new (by simp)) (Nat.le_refl _) (by unfold maxLen; simp)) (fun h => by cases h)
  · simp only [hj, if_true] at HR2
    have HR3 := Lib.hid HR2
    have hs2 := hsj.out
    rw [hj] at hs2
    simp only at hs2
    clear HR2 h45 h37 HR hj hsj
    go_wp2
    exact HR3.out _ _ bl0 (ints_blk (xs := [(i : Int) + 1, m.n]) (heap_new (by simp)) (Nat.le_refl _) (by unfold maxLen; simp)) (fun h => by cases h)

/-- A row of sets, whole. -/
def setsA (V : List (BitVec 64)) : Array Value := (V.map fun x => Value.int .u64 (bvI x)).toArray
theorem setsA_get {V : List (BitVec 64)} {k : Nat} (h : k < V.length) : (setsA V)[k]? = some (.int .u64 (bvI (atV V k))) := by
  unfold setsA atV
  rw [List.getElem?_toArray, List.getElem?_map, List.getElem?_eq_getElem h, List.getD_eq_getElem?_getD, List.getElem?_eq_getElem h]
  rfl
theorem setsA_set {V : List (BitVec 64)} {k : Nat} (x : BitVec 64) : (setsA V).setIfInBounds k (.int .u64 (bvI x)) = setsA (V.set k x) := by
  unfold setsA
  rw [List.setIfInBounds_toArray, List.map_set]
theorem setsA_first (n : Nat) : setsA (List.replicate n 0#64) = Array.replicate n (.int .u64 0) := by
  unfold setsA
  rw [List.map_replicate]
  apply Array.ext'
  simp
  exact .inr rfl
theorem info_set : (Tryd.prog.info? 217).map (fun i => (i.zero, i.size, i.bytes)) = some (some (.int .u64 0), 1, 8) := by kernel_rfl
theorem make_sets (W : World) (n : Nat) (hn : n ≤ 5000) : (Instr.makeSlice 215 (.int .i64 (n : Int)) (.int .i64 (n : Int))).run Tryd.prog W = .ok (.slice (some ⟨W.heap.size, 0, none⟩) n n) (W.alloc (.cells (setsA (List.replicate n 0#64)) 217)) := by
  obtain ⟨iB, hi, z0, z1, z2⟩ := info_parts info_set
  have h := run_make (P := Tryd.prog) W 215 217 iB _ Tryd.underlying215 hi z0 .i64 .i64 (n : Int) (n : Int) (by omega) (Int.le_refl _) (by rw [z2]; omega) (by omega)
  rw [z1] at h
  simp only [Int.toNat_natCast, Nat.mul_one] at h
  have e : madeCells (Value.int .u64 0).cells n = setsA (List.replicate n 0#64) := by
    rw [setsA_first]
    unfold madeCells
    apply Array.ext
    · simp
    · intro i h1 h2
      simp [Value.cells, Nat.mod_one]
  rw [e] at h
  exact h
theorem blk_cell' {w : World} {b j : Nat} {A : Array Value} {T : TypeId} {fr : Nat × Nat} (h : w.heap[b]? = some (.cells A T fr)) : w.cell? ⟨b, j, none⟩ = A[j]? := by simp [World.cell?, h]
theorem take_snoc' {α : Type} {l : List α} {k : Nat} (h : k < l.length) : l.take (k + 1) = l.take k ++ [l[k]] := by
  rw [List.take_add_one, List.getElem?_eq_getElem h]
  rfl
def closedV (l : List Mac) (V : List (BitVec 64)) : Prop := ∀ i, i < l.length → nextV l (fun i => readsV (atL l i)) (fun i => writesV (atL l i)) V i = atV V i
theorem rwV {l : List Mac} (h : MacsOk l) : RW l (fun i => readsV (atL l i)) (fun i => writesV (atL l i)) :=
  ⟨fun i hi r hr => readsV_at (h.at_ hi) hr, fun i hi r hr => writesV_at (h.at_ hi) hr, fun i hi r hr => readsV_lt (h.at_ hi) hr⟩
/-- The relation of the round from the last instruction on. -/
def midV (l : List Mac) (V V' : List (BitVec 64)) (b : Bool) (ii : Int) : Prop :=
  GoodV l (fun i => readsV (atL l i)) (fun i => writesV (atL l i)) V' ∧ (b = false → V' = V ∧ ∀ k : Nat, ii < (k : Int) → k < l.length → nextV l (fun i => readsV (atL l i)) (fun i => writesV (atL l i)) V' k = atV V' k) ∧ (b = true → restV V' < restV V)
theorem midV.same {l : List Mac} {V V' : List (BitVec 64)} {b : Bool} {k : Nat} (h : midV l V V' b k) (he : nextV l (fun i => readsV (atL l i)) (fun i => writesV (atL l i)) V' k = atV V' k) : midV l V V' b ((k : Int) - 1) := by
  refine ⟨h.1, fun hb => ⟨(h.2.1 hb).1, fun j h1 h2 => ?_⟩, h.2.2⟩
  by_cases e : j = k
  · subst e; exact he
  · exact (h.2.1 hb).2 j (by omega) h2
theorem midV.more {l : List Mac} (hok : MacsOk l) {V V' : List (BitVec 64)} {b : Bool} {k : Nat} (hk : k < l.length) (h : midV l V V' b k) (he : nextV l (fun i => readsV (atL l i)) (fun i => writesV (atL l i)) V' k ≠ atV V' k) :
    midV l V (V'.set k (nextV l (fun i => readsV (atL l i)) (fun i => writesV (atL l i)) V' k)) true ((k : Int) - 1) := by
  refine ⟨h.1.step hok (rwV hok) hk, (fun hb => by cases hb), fun _ => ?_⟩
  have h1 := h.1.less hk he
  cases b
  · rw [(h.2.1 rfl).1] at h1 ⊢; exact h1
  · have := h.2.2 rfl; omega
set_option maxRecDepth 100000 in
set_option maxHeartbeats 2000000 in
theorem live_calls (v : Value) (l : List Mac) (hok : MacsOk l) (w : World) (h : rpMac.SL w w.heap.size l v) (hS : Shapes w) (R : Ending → World → Prop)
    (hR : ∀ w' g V, Below w.heap.size w w' → w.heap.size ≤ g → w'.heap[g]? = some (.cells (setsA V) 217 (0, 0)) → V.length = l.length → (∀ i r, i < l.length → r < 16 → (atV V i).getLsbD r = liveB l i r) → R (.returned (.slice (some ⟨g, 0, none⟩) l.length l.length)) w') :
    Calls Tryd.prog 149 #[v] w R := by
  have h0 := hS.1
  have hfew := hok.few
  have hpos := hok.some_
  obtain ⟨A, c, rfl, hmx, hcap, hs⟩ := h.cases_
  have HS := Lib.hid hS
  have HR := Lib.hid hR
  have Hs := Lib.hid hs
  have hmk := make_sets w l.length hfew
  obtain ⟨W0, hW0⟩ : ∃ W0, W0 = w.alloc (.cells (setsA (List.replicate l.length 0#64)) 217) := ⟨_, rfl⟩
  rw [← hW0] at hmk
  have hb0 : Below w.heap.size w W0 := by rw [hW0]; exact bl0
  have hblk0 : W0.heap[w.heap.size]? = some (.cells (setsA (List.replicate l.length 0#64)) 217 (0, 0)) := by rw [hW0]; exact heap_alloc_new _ _
  have HW0 := Lib.hid hW0
  clear hS hR hs h hW0
  go_enter Tryd.func149, Tryd.ntmps149
  go_wp2
  go_loopg [4] (restV (List.replicate l.length 0#64) + 1) (fun g chg wr => ∃ (V : List (BitVec 64)) (b : Bool), chg = .bool b ∧ g = restV V + b.toNat ∧ GoodV l (fun i => readsV (atL l i)) (fun i => writesV (atL l i)) V ∧ (b = false → closedV l V) ∧ Below w.heap.size w wr ∧ wr.heap[w.heap.size]? = some (.cells (setsA V) 217 (0, 0)))
  case atStart => exact ⟨_, true, rfl, rfl, GoodV.first, fun h => (by cases h), hb0, hblk0⟩
  case round =>
    obtain ⟨V, b, rfl, rfl, hgood, hcl, hbel, hblk⟩ := hrel
    have Hb := Lib.hid hbel
    have Hblk := Lib.hid hblk
    have Hgood := Lib.hid hgood
    have Hcl := Lib.hid hcl
    clear hb0 hblk0 hmk hbel hblk hgood hcl
    cases b
    · have H1 := Lib.hid (HR.out _ _ _ Hb.out (Nat.le_refl _) Hblk.out Hgood.out.len (fun i r hi hr => Hgood.out.done hok (rwV hok) (Hcl.out rfl) hi hr))
      go_wp2
      exact H1.out
    · clear Hcl
      go_wp2
      go_loopg [4, 5] l.length (fun g chg i wx => ∃ (V' : List (BitVec 64)) (b : Bool) (ii : Int), chg = .bool b ∧ i = .int .i64 ii ∧ -1 ≤ ii ∧ ii < (l.length : Int) ∧ g = (ii + 1).toNat ∧ Hid (midV l V V' b ii) ∧ Below w.heap.size w wx ∧ wx.heap[w.heap.size]? = some (.cells (setsA V') 217 (0, 0)))
      case atStart => exact ⟨V, false, _, rfl, rfl, by omega, by omega, by omega, Lib.hid ⟨Hgood.out, fun _ => ⟨rfl, fun k h1 h2 => by omega⟩, fun h => by cases h⟩, Hb.out, Hblk.out⟩
      case round =>
        obtain ⟨V', b, ii, rfl, rfl, h1, h2, rfl, hmid, hbel, hblk⟩ := hrel
        have Hb2 := Lib.hid hbel
        have Hblk2 := Lib.hid hblk
        have hz2 := hbel.size
        clear hbel hblk
        by_cases hii : 0 ≤ ii
        · obtain ⟨k, rfl⟩ : ∃ k : Nat, ii = (k : Int) := ⟨ii.toNat, by omega⟩
          have hk : k < l.length := by omega
          go_wp2_with fail
          refine Next_calls _ l k hk hok _ (Hs.out.up Hb2.out hz2) (HS.out.up Hb2.out h0) _ ?_
          intro w5 v5 hb5 hks _
          have hlt := nextL_lt hok hk
          have hkl := nextL_len l k
          obtain ⟨A5, c5, rfl, hmx5, hc5, hks⟩ := hks.cases_
          have HX : Hid (nextV l (fun i => readsV (atL l i)) (fun i => writesV (atL l i)) V' k = stepV (readsV (atL l k)) (writesV (atL l k)) (orTo V' (nextL l k))) := Lib.hid rfl
          generalize hX : nextV l (fun i => readsV (atL l i)) (fun i => writesV (atL l i)) V' k = X at HX
          have HXe := Lib.hid hX
          clear hX
          generalize nextL l k = ks at *
          have Hlt := Lib.hid hlt
          have Hks := Lib.hid hks
          have Hb5 := Lib.hid (Hb2.out.trans (hb5.mono hz2))
          have Hblk5 := Lib.hid ((hb5.block _ (blk_lt Hblk2.out)).trans Hblk2.out)
          have hz5 := Hb5.out.size
          clear hlt hks hb5
          go_wp2
          go_loopg [6, 25] ks.length (fun g acc i wy => ∃ t : Nat, t ≤ ks.length ∧ g = ks.length - t ∧ i = .int .i64 t ∧ acc = .int .u64 (bvI (orTo V' (ks.take t))) ∧ wy = w5)
          case atStart => exact ⟨0, Nat.zero_le _, rfl, rfl, rfl, rfl⟩
          case round =>
            obtain ⟨t, ht, rfl, rfl, rfl, rfl⟩ := hrel
            by_cases htl : t < ks.length
            · obtain ⟨b6, o6, rfl, hb6, q6⟩ := Hks.out.int_at htl
              have hx0 := Hlt.out _ (List.getElem_mem htl)
              have hgd : ks.getD t 0 = ks[t] := by rw [List.getD_eq_getElem?_getD, List.getElem?_eq_getElem htl]; rfl
              rw [hgd] at q6
              have Hst := Lib.hid (orTo_snoc V' (ks.take t) ks[t])
              rw [← take_snoc' htl] at Hst
              obtain ⟨y, hy⟩ : ∃ y : Nat, ks[t] = (y : Int) := ⟨ks[t].toNat, by omega⟩
              rw [hy] at hx0 q6 Hst
              have hyl : y < V'.length := by rw [(show Hid (midV l V V' b k) from hmid).out.1.len]; omega
              have q7 : wr.cell? ⟨w.heap.size, y, none⟩ = some (.int .u64 (bvI (atV V' y))) := by rw [blk_cell' Hblk5.out]; exact setsA_get hyl
              have Hor := Lib.hid (bits_or (orTo V' (ks.take t)) (atV V' y))
              have i6 : (0 : Int) ≤ (y : Int) := by omega
              have i7 : (y : Int) < (l.length : Int) := by omega
              have i8 : (t : Int) < (ks.length : Int) := by omega
              rw [Int.toNat_natCast] at Hst
              clear hy hgd hx0 hyl
              go_wp2
              go_roundg (ks.length - (t + 1))
              case measure => omega
              case rel => exact ⟨t + 1, by omega, rfl, by go_num, by rw [Hor.out, Hst.out], rfl⟩
            · obtain rfl : t = ks.length := by omega
              rw [List.take_length]
              obtain ⟨b6, o6, m, rfl, hbm, e, c0, c1, c2, c3, c4⟩ := Hs.out.mac_at hk
              have em : atL l k = m := by
                rw [atL_get hk]
                rw [List.getElem?_eq_getElem hk] at e
                exact Option.some.inj e
              rw [em] at HX
              have hm := hok.at_ hk
              rw [em] at hm
              have Hc : Hid (∀ w', Below wr.heap.size wr w' → w'.cell? ⟨b6, o6 + k * 5, none⟩ = some (.int .i64 m.op) ∧ w'.cell? ⟨b6, o6 + k * 5 + 1, none⟩ = some (.int .i64 m.dst) ∧ w'.cell? ⟨b6, o6 + k * 5 + 2, none⟩ = some (.int .i64 m.a) ∧ w'.cell? ⟨b6, o6 + k * 5 + 3, none⟩ = some (.int .i64 m.b) ∧ w'.cell? ⟨b6, o6 + k * 5 + 4, none⟩ = some (.int .i64 m.n) ∧ Hid (Below w.heap.size w w') ∧ Hid (Below wr.heap.size wr w')) := Lib.hid (fun w' hb => by
                have hb' := Hb5.out.trans (hb.mono hz5)
                exact ⟨(hb'.cell hbm).trans c0, (hb'.cell (p := ⟨b6, o6 + k * 5 + 1, none⟩) hbm).trans c1, (hb'.cell (p := ⟨b6, o6 + k * 5 + 2, none⟩) hbm).trans c2, (hb'.cell (p := ⟨b6, o6 + k * 5 + 3, none⟩) hbm).trans c3, (hb'.cell (p := ⟨b6, o6 + k * 5 + 4, none⟩) hbm).trans c4, Lib.hid hb', Lib.hid hb⟩)
              have i3 : (0 : Int) ≤ (k : Int) := by omega
              have i4 : (k : Int) < (l.length : Int) := by omega
              clear c0 c1 c2 c3 c4 e em
              generalize orTo V' ks = B at *
              go_wp2_with fail
              go_region_held3 (fun w' => w'.cell? ⟨b6, o6 + k * 5, none⟩ = some (.int .i64 m.op) ∧ w'.cell? ⟨b6, o6 + k * 5 + 1, none⟩ = some (.int .i64 m.dst) ∧ w'.cell? ⟨b6, o6 + k * 5 + 2, none⟩ = some (.int .i64 m.a) ∧ w'.cell? ⟨b6, o6 + k * 5 + 3, none⟩ = some (.int .i64 m.b) ∧ w'.cell? ⟨b6, o6 + k * 5 + 4, none⟩ = some (.int .i64 m.n) ∧ Hid (Below w.heap.size w w') ∧ Hid (Below wr.heap.size wr w')) (first | with_reducible exact Hc.out _ (Below.refl _ _).drew | with_reducible exact Hc.out _ (e7.out.trans (hb7.mono e7.out.size)) | go_keep) (first
                | (go_at_call 157; obtain ⟨_, _, _, _, _, e6, e7⟩ := ‹_ ∧ _ ∧ _ ∧ _ ∧ _ ∧ Hid (Below w.heap.size w _) ∧ Hid (Below wr.heap.size wr _)›; with_reducible refine reads_calls m hm _ (HS.out.up e6.out h0) _ (fun w7 hb7 => ?_))
                | (go_at_call 158; obtain ⟨_, _, _, _, _, e6, e7⟩ := ‹_ ∧ _ ∧ _ ∧ _ ∧ _ ∧ Hid (Below w.heap.size w _) ∧ Hid (Below wr.heap.size wr _)›; with_reducible refine writes_calls m hm _ (HS.out.up e6.out h0) _ (fun w7 hb7 => ?_)))
              obtain ⟨_, _, _, _, _, e8, e9⟩ := ‹_ ∧ _ ∧ _ ∧ _ ∧ _ ∧ Hid (Below w.heap.size w w7) ∧ Hid (Below wr.heap.size wr w7)›
              have hblk7 := (e9.out.block _ (blk_lt Hblk5.out)).trans Hblk5.out
              have hmid' := hmid.out
              have hkV : k < V'.length := by rw [hmid'.1.len]; omega
              have q8 : w7.cell? ⟨w.heap.size, k, none⟩ = some (.int .u64 (bvI (atV V' k))) := by rw [blk_cell' hblk7]; exact setsA_get hkV
              have f8 : w7.frozen? ⟨w.heap.size, k, none⟩ = false := by simp [World.frozen?, hblk7]
              have hz7 : w.heap.size < w7.heap.size := blk_lt hblk7
              rw [bits_andNot, bits_or]
              have HX2 := HX.out
              unfold stepV at HX2
              rw [← HX2]
              have Hblk7 := Lib.hid hblk7
              have Hmid := Lib.hid hmid'
              clear hblk7 hmid hmid' HX2 HX
              by_cases hne : X = atV V' k
              · have Hne := Lib.hid hne
                have hq : (bvI X == bvI (atV V' k)) = true := by rw [hne]; simp
                clear hne
                go_wp2
                go_roundg k
                case measure => omega
                case rel => exact ⟨V', b, (k : Int) - 1, rfl, rfl, by omega, by omega, by omega, Lib.hid (Hmid.out.same (HXe.out.trans Hne.out)), e8.out, Hblk7.out⟩
              · have Hne := Lib.hid hne
                have hq : (bvI X == bvI (atV V' k)) = false := by
                  rw [beq_eq_false_iff_ne]
                  exact fun e => hne (bvI_inj.1 e)
                clear hne
                go_wp2
                go_roundg k
                case measure => omega
                case rel => exact ⟨V'.set k X, true, (k : Int) - 1, rfl, rfl, by omega, by omega, by omega, Lib.hid (by
                    have := Hmid.out.more hok hk (fun e => Hne.out (HXe.out.symm.trans e))
                    rwa [HXe.out] at this), e8.out.setCell (p := ⟨w.heap.size, k, none⟩) (Nat.le_refl _) _, by rw [block_set Hblk7.out, setsA_set]⟩
        · obtain rfl : ii = -1 := by omega
          have hmid' := hmid.out
          have Hmid := Lib.hid hmid'
          clear hmid hmid'
          go_wp2
          go_roundg (restV V' + b.toNat)
          case measure =>
            cases b
            · rw [(Hmid.out.2.1 rfl).1]; simp
            · have := Hmid.out.2.2 rfl; simp; omega
          case rel => exact ⟨V', b, rfl, rfl, Hmid.out.1, fun hb i hi => (Hmid.out.2.1 hb).2 i (by omega) hi, Hb2.out, Hblk2.out⟩
end Go.Proofs.YtemakpjickbmnaaDoor

/- Package mac: live registers, listed. -/
namespace Go.Proofs.YtemakpjickbmnaaDoor
open Go.RowKit
set_option linter.unusedSimpArgs false
set_option linter.unusedVariables false

theorem macsFrom_iff {l : List Mac} : ∀ (m i : Nat), i + m = l.length → (macsFrom l m i = (0, 0) ↔ (∀ k, i ≤ k → k < l.length → macF (atL l k) l.length = 0) ∧ ((atL l (l.length - 1)).op = 37 ∨ (atL l (l.length - 1)).op = 45))
  | 0, i, h => by
    rw [macsFrom]
    by_cases hl : (l.getD (l.length - 1) ⟨0, 0, 0, 0, 0⟩).op = 37 ∨ (l.getD (l.length - 1) ⟨0, 0, 0, 0, 0⟩).op = 45
    · rw [if_pos hl]
      exact ⟨fun _ => ⟨fun k h1 h2 => by omega, hl⟩, fun _ => rfl⟩
    · rw [if_neg hl]
      constructor
      · intro e
        injection e with e
        omega
      · intro e
        exact absurd e.2 hl
  | m + 1, i, h => by
    rw [macsFrom]
    by_cases hf : macF (l.getD i ⟨0, 0, 0, 0, 0⟩) l.length ≠ 0
    · rw [if_pos hf]
      constructor
      · intro e
        injection e with e
        exact absurd e hf
      · intro e
        exact absurd (e.1 i (Nat.le_refl _) (by omega)) hf
    · rw [if_neg hf, macsFrom_iff m (i + 1) (by omega)]
      have hf' : macF (atL l i) l.length = 0 := Decidable.of_not_not hf
      constructor
      · rintro ⟨h1, h2⟩
        refine ⟨fun k hk hl => ?_, h2⟩
        by_cases e : k = i
        · subst e; exact hf'
        · exact h1 k (by omega) hl
      · rintro ⟨h1, h2⟩
        exact ⟨fun k hk hl => h1 k (by omega) hl, h2⟩
theorem macsOk_iff {l : List Mac} : macsFault l = (0, 0) ↔ MacsOk l := by
  unfold macsFault
  by_cases h1 : 5000 < l.length
  · rw [if_pos h1]
    constructor
    · intro e
      injection e with e
      omega
    · intro e
      have := e.few
      omega
  rw [if_neg h1]
  by_cases h2 : l = []
  · rw [if_pos h2]
    constructor
    · intro e
      injection e with e
      omega
    · intro e
      have := e.some_
      rw [h2] at this
      simp at this
  rw [if_neg h2, macsFrom_iff l.length 0 (by omega)]
  constructor
  · rintro ⟨h3, h4⟩
    refine ⟨List.length_pos_iff.2 h2, by omega, fun m hm => ?_, h4⟩
    obtain ⟨k, hk, e⟩ := in_atL hm
    rw [← e]
    exact h3 k (Nat.zero_le _) hk
  · intro h
    exact ⟨fun k _ hk => h.fine _ (atL_in hk), h.last⟩

noncomputable def liveRow (l : List Mac) (i : Nat) : List Int := ((List.range 16).filter (fun r => liveB l i r)).map Int.ofNat
noncomputable def liveTo (l : List Mac) (k : Nat) : List (List Int) := (List.range k).map (liveRow l)
noncomputable def liveL (l : List Mac) : List (List Int) := liveTo l l.length
theorem liveTo_step (l : List Mac) (k : Nat) : liveTo l (k + 1) = liveTo l k ++ [liveRow l k] := by
  unfold liveTo
  rw [List.range_succ, List.map_append]
  rfl
theorem liveTo_len (l : List Mac) (k : Nat) : (liveTo l k).length = k := by unfold liveTo; rw [List.length_map, List.length_range]
theorem bvL_live {l : List Mac} {i : Nat} {x : BitVec 64} (h : ∀ r, r < 16 → x.getLsbD r = liveB l i r) : bvL x = liveRow l i := by
  unfold bvL bvTo liveRow
  congr 1
  apply List.filter_congr
  intro r hr
  exact h r (List.mem_range.1 hr)
theorem info_ints : (Tryd.prog.info? 22).map (fun i => (i.zero, i.size, i.bytes)) = some (some (.slice none 0 0), 1, 24) := by kernel_rfl
set_option maxRecDepth 100000 in
set_option maxHeartbeats 2000000 in
theorem Live_calls (v : Value) (l : List Mac) (hok : MacsOk l) (w : World) (h : rpMac.SL w w.heap.size l v) (hS : Shapes w) (R : Ending → World → Prop)
    (hR : ∀ w' v', Below w.heap.size w w' → rpInt.slice.SLF w' w.heap.size w'.heap.size (liveL l) v' → R (.returned (.tuple #[v', .agg #[.int .i64 0, .int .i64 0]])) w') :
    Calls Tryd.prog 124 #[v] w R := by
  have h0 := hS.1
  have hfew := hok.few
  have hpos := hok.some_
  obtain ⟨iC, hiC, zC0, zC1, zC2⟩ := info_parts info_ints
  have hcode := macsOk_iff.2 hok
  have HS := Lib.hid hS
  have HR := Lib.hid hR
  have Hs := Lib.hid h
  have Hcode := Lib.hid hcode
  clear hS hR h hcode
  go_enter Tryd.func124, Tryd.ntmps124
  go_wp2_with fail
  refine Check_calls _ l _ (Hs.out.up (by exact bl0) (by simp)) (HS.out.up (by exact bl0) h0) _ ?_
  intro w1 hb1
  rw [Hcode.out]
  obtain ⟨hc1, hf1⟩ := bcell hb1
  have hz : w.heap.size < w1.heap.size := by have := hb1.size; simp at this; omega
  have hE : w1.heap[w.heap.size]? = some (.cells #[.int .i64 0, .int .i64 0] 25 (0, 0)) := (hb1.block _ (by simp)).trans (heap_alloc_new _ _)
  have Hb1 := Lib.hid (show Below w.heap.size w w1 from (by exact bl0 : Below w.heap.size w _).trans (hb1.mono (by simp)))
  have HE := Lib.hid hE
  clear hb1 hc1 hf1 hE
  go_wp2_with fail
  refine live_calls _ l hok _ (Hs.out.up (Hb1.out.trans ((by exact bl0 : Below w1.heap.size w1 _).mono Hb1.out.size)) (by simp; omega)) (HS.out.up (Hb1.out.trans ((by exact bl0 : Below w1.heap.size w1 _).mono Hb1.out.size)) h0) _ ?_
  intro w2 g V hb2 hg hblk hlen hval
  have hE2 := (hb2.block _ (by simp; omega)).trans (blk_alloc HE.out (Obj.cells #[.int .i64 0, .int .i64 0] 25))
  have Hb2 := Lib.hid (Hb1.out.trans (((by exact bl0 : Below w1.heap.size w1 (w1.alloc (Obj.cells #[.int .i64 0, .int .i64 0] 25))).trans (hb2.mono (by simp))).mono Hb1.out.size))
  have HE2 := Lib.hid hE2
  have hlE := blk_lt hE2
  have Hblk := Lib.hid hblk
  have hlG := blk_lt hblk
  have Hlive : Hid (∀ k, k < l.length → bvL (atV V k) = liveRow l k) := Lib.hid fun k hk => bvL_live fun r hr => hval k r hk hr
  have Hlen := Lib.hid hlen
  clear hE2 hblk hval hb2 HE Hb1 hlen
  go_wp2
  go_loopg [5, 17] l.length (fun gh s5 s17 wr => ∃ (k : Nat) (css : List (List Value)), k ≤ l.length ∧ gh = l.length - k ∧ s17 = .int .i64 (k : Int) ∧ Built rpInt.slice w2.heap.size 22 (fun b => b < w2.heap.size) wr s5 (liveTo l k) css ∧ Below w2.heap.size w2 wr)
  case atStart => exact ⟨0, [], Nat.zero_le _, rfl, rfl, Built.nil _ _ _ _ _ (fun _ h => h), Below.refl _ _⟩
  case round =>
    obtain ⟨k, css, hk, rfl, rfl, hbu, hbel⟩ := hrel
    have Hbu := Lib.hid hbu
    have Hbel := Lib.hid hbel
    have hz2 := hbel.size
    obtain ⟨A6, n6, hs6⟩ := own_slice hbu.own
    subst hs6
    clear hbu hbel
    by_cases hlt : k < l.length
    · have q8 : wr.cell? ⟨g, k, none⟩ = some (.int .u64 (bvI (atV V k))) := by rw [blk_cell' ((Hbel.out.block _ hlG).trans Hblk.out)]; exact setsA_get (by rw [Hlen.out]; exact hlt)
      have Hst := Lib.hid (liveTo_step l k)
      have Hll := Lib.hid (liveTo_len l k)
      have hL : bvL (atV V k) = liveRow l k := Hlive.out k hlt
      generalize liveTo l k = LT at *
      rw [Hll.out] at Hbu
      rw [Hll.out]
      have i1 : (0 : Int) ≤ (k : Int) := by omega
      have i2 : (k : Int) < (l.length : Int) := by omega
      have HL := Lib.hid hL
      clear hL
      go_wp2_with fail
      refine list_calls (atV V k) _ _ (fun w5 v5 hb5 hown5 => ?_)
      generalize bvL (atV V k) = L at *
      obtain ⟨A5, c5, rfl⟩ := own_slice hown5
      have Ho5 := Lib.hid hown5
      have hlr := Hbu.out.own.lt
      have Hlr := Lib.hid hlr
      have hz5 := hb5.size
      have HBu5 := Lib.hid ((Hbu.out.below hb5 (Nat.le_refl _)).alloc (Obj.cells #[.slice A5 L.length c5] 22))
      have Hap : Hid (Apart rpInt.slice (fun b => b < w2.heap.size) (w5.alloc (Obj.cells #[.slice A5 L.length c5] 22)) (.slice A6 k n6) L [.slice A5 L.length c5]) := Lib.hid (Apart.of_only (base := wr.heap.size) ⟨_, rfl, SLint_own (ownsRow_only (Ho5.out.alloc _)) (by rw [only_size]; exact Nat.le_refl _)⟩ (fun k (h : k < w2.heap.size) => by omega) (fun g hg => by have := (Hlr.out g hg).2; omega))
      have Hbel5 := Lib.hid (Hbel.out.trans (hb5.mono hz2))
      clear hb5 hown5 hlr q8
      have hwz5 : w2.heap.size ≤ w5.heap.size := by omega
      go_wp2_with (at_builtin; refine wpList_append_lies _ rfl _ _ 32 rfl w2.heap.size 22 iC _ 1 24 Tryd.underlying32 hiC zC0 zC1 zC2 rfl (by decide) (.slice A6 k n6) k css.flatten rfl (by have := HBu5.out.own; rw [Hll.out] at this; exact this) ⟨w5.heap.size, 0, none⟩ 1 1 [.slice A5 L.length c5] rfl rfl ?_ ?_ (by decide) ?_ ?_ ?_ _ rfl ?_)
      any_goals (first | with_reducible exact World.news_of_block (cs := #[.slice A5 L.length c5]) (t := 22) (fr := (0, 0)) (heap_alloc_new _ _) | (simp [Value.oneCell']; done) | (unfold maxLen; omega) | omega | (simp; done) | (simp; omega))
      intro gb cap w9 hown9 hgrow9 hat9 hlt9
      have HB9 := Lib.hid (HBu5.out.push hown9 (by rw [Hll.out]) hgrow9 (by simpa using hat9) Hap.out)
      have Hbel9 := Lib.hid ((Hbel5.out.alloc hwz5 _).trans ((Grew.of_grown hgrow9).below (B := w2.heap.size) (fun j hj e => by have := (Hlr.out j e).1; omega) (by simp; omega)))
      clear hown9 hgrow9 hat9 hlt9
      go_wp2
      go_roundg (l.length - (k + 1))
      case measure => omega
      case rel => exact ⟨k + 1, _, by omega, rfl, by go_num, by rw [Hst.out, ← HL.out]; exact HB9.out, Hbel9.out⟩
    · obtain rfl : k = l.length := by omega
      have HEr := Lib.hid ((Hbel.out.block _ hlE).trans HE2.out)
      obtain ⟨e0, e1⟩ := cells_blk HEr.out
      have hlr : w.heap.size < wr.heap.size := blk_lt HEr.out
      have f0 : wr.frozen? ⟨w.heap.size, 0, none⟩ = false := by simp [World.frozen?, HEr.out]
      have f1 : wr.frozen? ⟨w.heap.size, 1, none⟩ = false := by simp [World.frozen?, HEr.out]
      go_wp2
      refine bodyPost_ret (v := .tuple #[.slice A6 (liveTo l l.length).length n6, .agg #[.int .i64 0, .int .i64 0]]) (res_slice_Fault (by rfl) (by rfl) (by rfl) (cells_blk (T := 25) (by exact (blkp HEr.out)))) rfl ?_
      refine HR.out _ _ (((Hb2.out.trans (Hbel.out.mono Hb2.out.size)).setCell (p := ⟨w.heap.size, 0, none⟩) (Nat.le_refl _) _).setCell (p := ⟨w.heap.size, 1, none⟩) (Nat.le_refl _) _) (((Hbu.out.setCell ⟨w.heap.size, 0, none⟩ (by show _ < _; omega) _).setCell ⟨w.heap.size, 1, none⟩ (by show _ < _; omega) _).SLF (b := w.heap.size) (fun k hk => by show k < w2.heap.size; omega) (by omega) (Nat.le_refl _))
end Go.Proofs.YtemakpjickbmnaaDoor
