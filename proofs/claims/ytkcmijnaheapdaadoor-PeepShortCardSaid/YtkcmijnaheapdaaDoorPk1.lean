/- Package mac: sets of registers; what an instruction reads and writes; where it may go on. -/
import Derived.Test.YtkcmijnaheapdaaDoorBase
import Derived.Test.YtkcmijnaheapdaaDoorRows
import Derived.IntWalk
import Derived.Outline
import Derived.Deep.LoopGhost
import Derived.Test.YtkcmijnaheapdaaDoorMacB
import Derived.Test.YtkcmijnaheapdaaDoorCopyA
import Derived.Test.YtkcmijnaheapdaaDoorPeepV
namespace Go.Proofs.YtkcmijnaheapdaaDoor
open Go.RowKit
set_option linter.unusedSimpArgs false
set_option linter.unusedVariables false

/-- A set of registers, as a number. -/
def bvI (x : BitVec 64) : Int := (x.toNat : Int)
theorem bvI_lt (x : BitVec 64) : 0 ≤ bvI x ∧ bvI x < 18446744073709551616 := by
  have := x.isLt
  unfold bvI
  omega
theorem bvI_of (x : BitVec 64) : BitVec.ofInt 64 (bvI x) = x := by
  unfold bvI
  apply BitVec.eq_of_toNat_eq
  rw [BitVec.toNat_ofInt]
  have := x.isLt
  omega
theorem bvI_inj {x y : BitVec 64} : bvI x = bvI y ↔ x = y := by
  constructor
  · intro h
    rw [← bvI_of x, h, bvI_of]
  · rintro rfl; rfl
theorem wrap_bv (x : BitVec 64) : IntKind.u64.wrap ((x.toNat : Nat) : Int) = bvI x := by
  have := x.isLt
  unfold bvI
  rw [IntKind.wrap_u64]
  omega
theorem bits_or (x y : BitVec 64) : bits .or .u64 (bvI x) (bvI y) = bvI (x ||| y) := by
  have e : bits .or .u64 (bvI x) (bvI y) = IntKind.u64.wrap ((BitVec.ofInt 64 (bvI x) ||| BitVec.ofInt 64 (bvI y)).toNat : Nat) := rfl
  rw [e, bvI_of, bvI_of, wrap_bv]
theorem bits_andNot (x y : BitVec 64) : bits .andNot .u64 (bvI x) (bvI y) = bvI (x &&& ~~~y) := by
  have e : bits .andNot .u64 (bvI x) (bvI y) = IntKind.u64.wrap ((BitVec.ofInt 64 (bvI x) &&& ~~~BitVec.ofInt 64 (bvI y)).toNat : Nat) := rfl
  rw [e, bvI_of, bvI_of, wrap_bv]
theorem bits_one (x : BitVec 64) (k : Nat) : bits .and .u64 (bvI x / 2 ^ k) 1 = if x.getLsbD k = true then 1 else 0 := by
  have e0 : bvI x / 2 ^ k = bvI (x >>> k) := by
    unfold bvI
    rw [BitVec.toNat_ushiftRight, Nat.shiftRight_eq_div_pow]
    simp
  have e : bits .and .u64 (bvI (x >>> k)) 1 = IntKind.u64.wrap ((BitVec.ofInt 64 (bvI (x >>> k)) &&& 1#64).toNat : Nat) := rfl
  rw [e0, e, bvI_of, wrap_bv]
  have h1 : (x >>> k) &&& 1#64 = if x.getLsbD k = true then 1#64 else 0#64 := by
    apply BitVec.eq_of_getLsbD_eq
    intro i hi
    rw [BitVec.getLsbD_and, BitVec.getLsbD_ushiftRight]
    cases h : x.getLsbD k
    · rw [if_neg (by simp), BitVec.getLsbD_zero]
      by_cases h0 : i = 0
      · subst h0; simp [h]
      · simp [BitVec.getLsbD_one, h0]
    · rw [if_pos rfl]
      by_cases h0 : i = 0
      · subst h0; simp [h]
      · simp [BitVec.getLsbD_one, h0]
  rw [h1]
  split <;> rfl
theorem shl_one {r : Int} (h0 : 0 ≤ r) (h1 : r ≤ 15) : IntKind.u64.wrap (2 ^ r.toNat) = bvI (1#64 <<< r.toNat) := by
  obtain ⟨k, rfl⟩ : ∃ k : Nat, r = (k : Int) := ⟨r.toNat, by omega⟩
  have : ∀ k : Nat, k < 16 → IntKind.u64.wrap (2 ^ k) = bvI (1#64 <<< k) := by decide +kernel
  exact this k (by omega)

/-- What an instruction reads and writes, as sets. -/
def readsV (m : Mac) : BitVec 64 := if m.op = 44 then 63#64 else if m.op = 45 then 16321#64 else
  (if (shapeOf m.op).a = true then 1#64 <<< m.a.toNat else 0#64) ||| (if (shapeOf m.op).b = true then 1#64 <<< m.b.toNat else 0#64)
def writesV (m : Mac) : BitVec 64 := if m.op = 44 then 49215#64 else if (shapeOf m.op).d = true then 1#64 <<< m.dst.toNat else 0#64
theorem one_at {a : Int} (h0 : 0 ≤ a) (h1 : a ≤ 15) (r : Nat) : (1#64 <<< a.toNat).getLsbD r = decide (a = (r : Int)) := by
  rw [BitVec.getLsbD_shiftLeft, BitVec.getLsbD_one]
  by_cases h : a = (r : Int)
  · simp [h]; omega
  · simp [h]; omega
theorem readsV_at {m : Mac} {len : Nat} (hm : MacOk m len) {r : Nat} (hr : r < 16) : (readsV m).getLsbD r = readsM m r := by
  unfold readsV readsM
  split
  · have : ∀ r : Nat, r < 16 → (63#64).getLsbD r = decide (r < 6) := by decide +kernel
    exact this r hr
  split
  · have : ∀ r : Nat, r < 16 → (16321#64).getLsbD r = decide (r = 0 ∨ (6 ≤ r ∧ r < 14)) := by decide +kernel
    exact this r hr
  rw [BitVec.getLsbD_or]
  congr 1
  · cases (shapeOf m.op).a
    · simp
    · rw [if_pos rfl, one_at hm.a0 hm.a1, Bool.true_and]
  · cases (shapeOf m.op).b
    · simp
    · rw [if_pos rfl, one_at hm.b0 hm.b1, Bool.true_and]
theorem writesV_at {m : Mac} {len : Nat} (hm : MacOk m len) {r : Nat} (hr : r < 16) : (writesV m).getLsbD r = writesM m r := by
  unfold writesV writesM
  split
  · have : ∀ r : Nat, r < 16 → (49215#64).getLsbD r = decide (r < 6 ∨ 14 ≤ r) := by decide +kernel
    exact this r hr
  · cases (shapeOf m.op).d
    · simp
    · rw [if_pos rfl, one_at hm.dst0 hm.dst1, Bool.true_and]
theorem readsV_lt {m : Mac} {len : Nat} (hm : MacOk m len) {r : Nat} (hr : 16 ≤ r) : (readsV m).getLsbD r = false := by
  have hb : ∀ x : BitVec 64, x.toNat < 65536 → x.getLsbD r = false := fun x hx => by
    rw [BitVec.getLsbD, Nat.testBit_lt_two_pow]
    exact Nat.lt_of_lt_of_le hx (show 2 ^ 16 ≤ 2 ^ r from Nat.pow_le_pow_right (by decide) hr)
  unfold readsV
  split
  · exact hb _ (by decide)
  split
  · exact hb _ (by decide)
  rw [BitVec.getLsbD_or, Bool.or_eq_false_iff]
  constructor
  · split
    · rw [one_at hm.a0 hm.a1]; have := hm.a1; simp; omega
    · simp
  · split
    · rw [one_at hm.b0 hm.b1]; have := hm.b1; simp; omega
    · simp
set_option maxHeartbeats 400000 in
theorem span_calls (lo hi v : Int) (hv : (lo = 0 ∧ hi = 5 ∧ v = 63) ∨ (lo = 6 ∧ hi = 13 ∧ v = 16320) ∨ (lo = 14 ∧ hi = 15 ∧ v = 49152)) (w : World) (R : Ending → World → Prop) (hR : ∀ w', Below w.heap.size w w' → R (.returned (.int .u64 v)) w') :
    Calls Tryd.prog 164 #[.int .i64 lo, .int .i64 hi] w R := by
  rcases hv with ⟨rfl, rfl, rfl⟩ | ⟨rfl, rfl, rfl⟩ | ⟨rfl, rfl, rfl⟩
  all_goals
    have HR := Lib.hid hR
    clear hR
    go_enter Tryd.func164, Tryd.ntmps164
    go_wp2
    go_quiet (fail)
    go_wp2
    exact HR.out _ bl0
theorem or_zero_left (x : BitVec 64) : bits .or .u64 0 (bvI x) = bvI x := by
  have := bits_or 0#64 x
  rw [BitVec.zero_or] at this
  exact this
theorem or_one1 (x : BitVec 64) : bits .or .u64 0 (bvI x) = bvI (x ||| 0#64) := by rw [or_zero_left, BitVec.or_zero]
theorem or_one2 (x : BitVec 64) : bits .or .u64 0 (bvI x) = bvI (0#64 ||| x) := by rw [or_zero_left, BitVec.zero_or]
theorem or_one3 (x y : BitVec 64) : bits .or .u64 (bits .or .u64 0 (bvI x)) (bvI y) = bvI (x ||| y) := by rw [or_zero_left, bits_or]
set_option maxHeartbeats 1000000 in
theorem reads_calls (m : Mac) {len : Nat} (hm : MacOk m len) (w : World) (hS : Shapes w) (R : Ending → World → Prop) (hR : ∀ w', Below w.heap.size w w' → R (.returned (.int .u64 (bvI (readsV m)))) w') :
    Calls Tryd.prog 161 #[.agg #[.int .i64 m.op, .int .i64 m.dst, .int .i64 m.a, .int .i64 m.b, .int .i64 m.n]] w R := by
  have h0 := hS.1
  have HS := Lib.hid hS
  clear hS
  unfold readsV at hR
  by_cases h44 : m.op = 44
  · rw [if_pos h44] at hR
    have HR := Lib.hid hR
    have i44 : (m.op == 44) = true := by simpa using h44
    clear hR h44
    go_enter Tryd.func161, Tryd.ntmps161
    go_wp2_with (go_at_call 164; refine span_calls 0 5 63 (.inl ⟨rfl, rfl, rfl⟩) _ _ (fun w1 hb1 => ?_))
    exact HR.out _ bl0
  rw [if_neg h44] at hR
  have i44 : (m.op == 44) = false := by simpa using h44
  clear h44
  by_cases h45 : m.op = 45
  · rw [if_pos h45] at hR
    have HR := Lib.hid hR
    have i45 : (m.op == 45) = true := by simpa using h45
    clear hR h45
    go_enter Tryd.func161, Tryd.ntmps161
    go_wp2_with (go_at_call 164; refine span_calls 6 13 16320 (.inr (.inl ⟨rfl, rfl, rfl⟩)) _ _ (fun w1 hb1 => ?_))
    exact HR.out _ bl0
  rw [if_neg h45] at hR
  have i45 : (m.op == 45) = false := by simpa using h45
  clear h45
  have ea := shl_one hm.a0 hm.a1
  have eb := shl_one hm.b0 hm.b1
  have a0 := hm.a0
  have a1 := hm.a1
  have b0 := hm.b0
  have b1 := hm.b1
  have a2 : m.a < 64 := by omega
  have b2 : m.b < 64 := by omega
  generalize hA : 1#64 <<< m.a.toNat = A at *
  generalize hB : 1#64 <<< m.b.toNat = B at *
  have HR := Lib.hid hR
  have EA := Lib.hid ea
  have EB := Lib.hid eb
  clear hR hA hB ea eb
  go_enter Tryd.func161, Tryd.ntmps161
  go_wp2_with fail
  refine Of_calls _ _ (HS.out.up (bl0) h0) _ ?_
  intro w1 hb1
  generalize shapeOf m.op = s at *
  obtain ⟨sd, sa, sb, sn⟩ := s
  unfold Shape.val
  obtain ⟨hc1, hf1⟩ := bcell hb1
  have hz : w.heap.size < w1.heap.size := by have := hb1.size; simp at this; omega
  have p2 : w1.cell? ⟨w.heap.size, 2, none⟩ = some (.int .i64 m.a) := by rw [hc1 _ _ (by simp)]; simp
  have p3 : w1.cell? ⟨w.heap.size, 3, none⟩ = some (.int .i64 m.b) := by rw [hc1 _ _ (by simp)]; simp
  have e1 := Lib.hid (or_one1 A)
  have e2 := Lib.hid (or_one2 B)
  have e3 := Lib.hid (or_one3 A B)
  cases sa <;> cases sb
  · go_wp2
    have h := HR.out
    simp only [Bool.false_eq_true, if_false, BitVec.or_zero] at h
    exact h _ bl0
  · go_wp2
    rw [EB.out, e2.out]
    exact HR.out _ bl0
  · go_wp2
    rw [EA.out, e1.out]
    exact HR.out _ bl0
  · go_wp2
    rw [EA.out, EB.out, e3.out]
    exact HR.out _ bl0
set_option maxRecDepth 100000 in
set_option maxHeartbeats 1000000 in
theorem writes_calls (m : Mac) {len : Nat} (hm : MacOk m len) (w : World) (hS : Shapes w) (R : Ending → World → Prop) (hR : ∀ w', Below w.heap.size w w' → R (.returned (.int .u64 (bvI (writesV m)))) w') :
    Calls Tryd.prog 162 #[.agg #[.int .i64 m.op, .int .i64 m.dst, .int .i64 m.a, .int .i64 m.b, .int .i64 m.n]] w R := by
  have h0 := hS.1
  have HS := Lib.hid hS
  clear hS
  unfold writesV at hR
  have ea := shl_one hm.dst0 hm.dst1
  have a0 := hm.dst0
  have a1 := hm.dst1
  have a2 : m.dst < 64 := by omega
  generalize hA : 1#64 <<< m.dst.toNat = A at *
  have EA := Lib.hid ea
  clear hA ea
  by_cases h44 : m.op = 44
  · rw [if_pos h44] at hR
    have HR := Lib.hid hR
    have i44 : (m.op == 44) = true := by simpa using h44
    clear hR h44
    go_enter Tryd.func162, Tryd.ntmps162
    go_wp2_with fail
    refine Of_calls _ _ (HS.out.up (bl0) h0) _ ?_
    intro w1 hb1
    obtain ⟨hc1, hf1⟩ := bcell hb1
    have hz : w.heap.size < w1.heap.size := by have := hb1.size; simp at this; omega
    have p0 : w1.cell? ⟨w.heap.size, 0, none⟩ = some (.int .i64 m.op) := by rw [hc1 _ _ (by simp)]; simp
    unfold Shape.val
    go_wp2_with (go_at_call 164; first | with_reducible refine span_calls 0 5 63 (.inl ⟨rfl, rfl, rfl⟩) _ _ (fun w2 hb2 => ?_); (have hz2 := hb2.size); simp at hz2 | with_reducible refine span_calls 14 15 49152 (.inr (.inr ⟨rfl, rfl, rfl⟩)) _ _ (fun w3 hb3 => ?_))
    exact HR.out _ bl0
  rw [if_neg h44] at hR
  have HR := Lib.hid hR
  have i44 : (m.op == 44) = false := by simpa using h44
  clear hR h44
  go_enter Tryd.func162, Tryd.ntmps162
  go_wp2_with fail
  refine Of_calls _ _ (HS.out.up (bl0) h0) _ ?_
  intro w1 hb1
  obtain ⟨hc1, hf1⟩ := bcell hb1
  have hz : w.heap.size < w1.heap.size := by have := hb1.size; simp at this; omega
  have p0 : w1.cell? ⟨w.heap.size, 0, none⟩ = some (.int .i64 m.op) := by rw [hc1 _ _ (by simp)]; simp
  have p1 : w1.cell? ⟨w.heap.size, 1, none⟩ = some (.int .i64 m.dst) := by rw [hc1 _ _ (by simp)]; simp
  generalize shapeOf m.op = s at *
  obtain ⟨sd, sa, sb, sn⟩ := s
  unfold Shape.val
  cases sd
  · go_wp2
    have h := HR.out
    simp only [Bool.false_eq_true, if_false] at h
    exact h _ bl0
  · go_wp2
    rw [EA.out]
    exact HR.out _ bl0

/-- The registers of a set, in order. -/
def bvTo (x : BitVec 64) (k : Nat) : List Int := ((List.range k).filter (fun r => x.getLsbD r)).map Int.ofNat
def bvL (x : BitVec 64) : List Int := bvTo x 16
theorem bvTo_step (x : BitVec 64) (k : Nat) : bvTo x (k + 1) = bvTo x k ++ (if x.getLsbD k = true then [(k : Int)] else []) := by
  unfold bvTo
  rw [List.range_succ, List.filter_append, List.map_append]
  cases h : x.getLsbD k <;> simp [List.filter_cons, h]
theorem bvTo_len (x : BitVec 64) (k : Nat) : (bvTo x k).length ≤ k := by
  unfold bvTo
  rw [List.length_map]
  exact Nat.le_trans (List.length_filter_le _ _) (by rw [List.length_range]; exact Nat.le_refl _)
set_option maxHeartbeats 1000000 in
theorem list_calls (x : BitVec 64) (w : World) (R : Ending → World → Prop) (hR : ∀ w' v', Below w.heap.size w w' → w'.ownsRow w.heap.size 3 1 v' (bvL x).length ((bvL x).flatMap intCells) → R (.returned v') w') :
    Calls Tryd.prog 155 #[.int .u64 (bvI x)] w R := by
  have HR := Lib.hid hR
  clear hR
  obtain ⟨i0, hi0, hz0, hz1, hz2⟩ := info_parts info_int3
  go_enter Tryd.func155, Tryd.ntmps155
  go_wp2
  go_loopg [3, 5] 16 (fun g v i wr => ∃ k : Nat, k ≤ 16 ∧ g = 16 - k ∧ i = .int .i64 k ∧ Below w.heap.size w wr ∧ wr.ownsRow w.heap.size 3 1 v (bvTo x k).length ((bvTo x k).flatMap intCells))
  case atStart => exact ⟨0, by omega, rfl, rfl, Below.refl _ _, World.ownsRow_nil _ _ _ _⟩
  case round =>
    obtain ⟨k, hk, rfl, rfl, hbel, hown⟩ := hrel
    by_cases hlt : k < 16
    · have hst := bvTo_step x k
      have hll := bvTo_len x k
      generalize hL : bvTo x k = L at *
      generalize hL2 : bvTo x (k + 1) = L2 at *
      have HL2 := Lib.hid hL2
      clear hL hL2
      have Hb := Lib.hid hbel
      have Ho := Lib.hid hown
      have hz := hbel.size
      obtain ⟨A, c, rfl⟩ := own_slice hown
      clear hbel hown
      have i1 : (k : Int) < 16 := by omega
      have i2 : (0 : Int) ≤ (k : Int) := by omega
      have i3 : (k : Int) < 64 := by omega
      have hone := bits_one x k
      cases hx : x.getLsbD k
      · rw [hx] at hone hst
        have Hst := Lib.hid (show L2 = L by rw [hst]; simp)
        have Hone := Lib.hid (show (bits .and .u64 (bvI x / 2 ^ k) 1 == 1) = false by rw [hone]; rfl)
        have hone2 := Hone.out
        clear hone hst hx
        go_wp2
        go_roundg (16 - (k + 1))
        case measure => omega
        case rel => exact ⟨k + 1, by omega, rfl, by go_num, Hb.out, by rw [HL2.out, Hst.out]; exact Ho.out⟩
      · rw [hx, if_pos rfl] at hone hst
        have Hst := Lib.hid hst
        have Hone := Lib.hid (show (bits .and .u64 (bvI x / 2 ^ k) 1 == 1) = true by rw [hone]; rfl)
        have hone2 := Hone.out
        clear hone hst hx
        go_wp2_with (at_builtin; refine wpList_append_own _ rfl _ _ 51 rfl w.heap.size 3 i0 _ 1 8 Tryd.underlying51 hi0 hz0 hz1 hz2 rfl (by decide) (.slice A L.length c) L.length (L.flatMap intCells) rfl (Ho.out.alloc _) ⟨wr.heap.size, 0, none⟩ 1 1 [.int .i64 (k : Int)] rfl rfl ?_ ?_ ?_ ?_ ?_ ?_)
        any_goals first | exact World.news_of_block (cs := #[.int .i64 (k : Int)]) (t := 3) (fr := (0, 0)) (heap_alloc_new wr _) | (simp [Value.oneCell']; done) | (unfold maxLen; omega) | omega | (simp; done) | (simp; omega)
        · intro v' w2 hown2 hgrow _
          have hb2 : Below w.heap.size w w2 := (Hb.out.alloc (by omega) (Obj.cells #[.int .i64 (k : Int)] 3)).grown hgrow (by simp; omega) (fun k hk => (Ho.out.lt k hk).1)
          have H1 := Lib.hid (And.intro hown2 hb2)
          clear hown2 hb2 hgrow
          go_wp2
          go_roundg (16 - (k + 1))
          case measure => omega
          case rel => exact ⟨k + 1, by omega, rfl, by go_num, H1.out.2, by rw [HL2.out, Hst.out, List.length_append, List.flatMap_append]; exact H1.out.1⟩
    · obtain rfl : k = 16 := by omega
      have H1 := Lib.hid (HR.out _ _ hbel hown)
      clear hbel hown
      go_wp2
      exact H1.out
end Go.Proofs.YtkcmijnaheapdaaDoor
