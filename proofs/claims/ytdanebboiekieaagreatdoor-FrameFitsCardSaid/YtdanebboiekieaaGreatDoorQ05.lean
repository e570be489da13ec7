/- code.checker: an instruction, whichever; the end of a block. Units that come in; code.ways, as the program's text lays it. A region that draws its order, by an invariant: each operation is met once. Words for rows of bytes that are appended to by calls: what may have been written, what the row holds. append onto a row of bytes of the call's own, from any slice of bytes or from a text: the laws for the walk. bytes.Number and its writer; a number as bytes, by the document. The writer of bytes: numbers, texts; sums of bytes; numbers folded. Numbers folded. An object's bytes, plainly. A region that draws its order, by what holds on its way: slots by their values, cells apart from its variables. A region that draws its order, inside a fence, by what holds on its way; operations may be guarded. -/
import Derived.Test.YtdanebboiekieaaGreatDoorQ01
import Derived.Test.YtdanebboiekieaaGreatDoorRows
import Derived.IntWalk
import Derived.Outline
import Derived.Deep.QuietTactic
import Derived.Deep.LoopGhost
import Derived.Test.YtdanebboiekieaaGreatDoorQ04
import Derived.ProofKit
import Derived.LaidMore
import Derived.OpenShut
import Derived.ShutString
import Derived.Stop.Joined
import Derived.Test.YtdanebboiekieaaGreatDoorQ02
import Derived.Orders
import Derived.Calls
import Derived.Test.YtdanebboiekieaaGreatDoorQ03
import Derived.Maps.AppendAt
import Derived.Laws.AppendOwnNone
import Derived.Lib.AppendStr
import Derived.Laws.BitsLemmas
import Derived.Laws.Bits64
import Derived.Laws.Bits64b
import Derived.OrdersIn
import Derived.RegionIn
import Derived.OwnWalkIn
namespace Go.Proofs.YtdanebboiekieaaGreatDoor
open Go.RowKit
set_option linter.unusedSimpArgs false
set_option linter.unusedVariables false

set_option maxRecDepth 100000 in
set_option maxHeartbeats 1000000 in
theorem ins_calls (gA fA bA aA : Option Addr) (gn gc fn fc bn bc' an ac : Nat) (nm : ByteArray) (pr rg : Int) (u : Unt) (x : UIns) (va : Value) (hrg : I64 rg) (h0 : -9223372036854775807 ≤ rg) (w : World)
 (hf : rpFun.SL w w.heap.size u.funcs (.slice fA fn fc)) (ha : rpVal.SL w w.heap.size x.args va)
 (R : Ending → World → Prop) (hR : ∀ w', Below w.heap.size w w' → R (.returned (.int .i64 (insF u rg x))) w') :
 Calls Tryz.prog 138 #[(.agg #[.slice gA gn gc, .slice fA fn fc, .string nm, .int .i64 pr, .int .i64 rg, .slice bA bn bc', .slice aA an ac]), .agg #[.int .i64 x.op, .int .i64 x.dst, .bool x.a.reg, .int .i64 x.a.n, .bool x.b.reg, .int .i64 x.b.n, .int .i64 x.fn, va]] w R := by
 obtain ⟨A, c, rfl, _, _, ha⟩ := ha.cases_
 by_cases hop : ¬ (1 ≤ x.op ∧ x.op ≤ 22)
 ·have e : insF u rg x = 4 := by unfold insF; rw [if_pos hop]
  rw [e] at hR
  have hd : decide (1 ≤ x.op ∧ x.op ≤ 22) = false := by simpa using hop
  have HR := Lib.hid hR
  clear hR e hop hf ha
  go_enter Tryz.func138, Tryz.ntmps138
  go_wp2_with (refine Within_calls _ _ _ _ _ ?_; rw [hd])
  exact HR.out _ bl0
 have hop := Decidable.of_not_not hop
 by_cases h1 : x.op = 1 ∨ x.op = 16 ∨ x.op = 17 ∨ x.op = 18
 ·exact ins_copy gA fA bA aA gn gc fn fc bn bc' an ac nm pr rg u x A c hrg h0 w hf ha hop (by unfold opDst; simp; omega) (by unfold opA; simp; omega) (by unfold opB; simp; omega) (by simp; omega) R hR
 by_cases h2 : x.op ≤ 15
 ·exact ins_two gA fA bA aA gn gc fn fc bn bc' an ac nm pr rg u x A c hrg h0 w hf ha hop (by unfold opDst; simp; omega) (by unfold opA; simp; omega) (by unfold opB; simp; omega) (by simp; omega) R hR
 by_cases h3 : x.op = 19
 ·exact ins_store gA fA bA aA gn gc fn fc bn bc' an ac nm pr rg u x A c hrg h0 w hf ha hop (by unfold opDst; simp; omega) (by unfold opA; simp; omega) (by unfold opB; simp; omega) (by simp; omega) R hR
 by_cases h4 : x.op = 20
 ·exact ins_call gA fA bA aA gn gc fn fc bn bc' an ac nm pr rg u x A c hrg h0 w hf ha hop (by unfold opDst; simp; omega) (by unfold opA; simp; omega) (by unfold opB; simp; omega) (by simp; omega) R hR
 by_cases h5 : x.op = 21
 ·exact ins_read gA fA bA aA gn gc fn fc bn bc' an ac nm pr rg u x A c hrg h0 w hf ha hop (by unfold opDst; simp; omega) (by unfold opA; simp; omega) (by unfold opB; simp; omega) (by simp; omega) R hR
 ·exact ins_print gA fA bA aA gn gc fn fc bn bc' an ac nm pr rg u x A c hrg h0 w hf ha hop (by unfold opDst; simp; omega) (by unfold opA; simp; omega) (by unfold opB; simp; omega) (by simp; omega) R hR

/-- code.ways, as it lies (block 0). -/
def Ways (w : World) : Prop := 0 < w.heap.size ∧ w.cell? ⟨0, 1, none⟩ = some (.int .i64 0) ∧ w.cell? ⟨0, 2, none⟩ = some (.int .i64 1) ∧ w.cell? ⟨0, 3, none⟩ = some (.int .i64 2)
theorem Ways.up {w w' : World} {B : Nat} (h : Ways w) (hb : Below B w w') (hB : 0 < B) : Ways w' :=
 ⟨Nat.lt_of_lt_of_le h.1 hb.size, (hb.cell hB).trans h.2.1, (hb.cell hB).trans h.2.2.1, (hb.cell hB).trans h.2.2.2⟩
/-- slices.ContainsFunc of the targets that lead nowhere. -/
theorem any_take_step {α : Type} (p : α → Bool) {l : List α} {k : Nat} (h : k < l.length) : (l.take (k + 1)).any p = ((l.take k).any p || p l[k]) := by
 rw [List.take_succ_eq_append_getElem h, List.any_append]
 simp
set_option maxHeartbeats 1000000 in
theorem idxNw_calls (M : Nat) (xs : List Int) (p : Int → Bool) (v : Value) (w : World) (h : rpInt.SL w w.heap.size xs v)
 (hcl : ∀ (a : Int) w1, a ∈ xs → Below w.heap.size w w1 → ∀ R : Ending → World → Prop, (∀ w2, Below w1.heap.size w1 w2 → R (.returned (.bool (p a))) w2) → Calls Tryz.prog 151 #[.int .i64 a, .pointer (some ⟨M, 0, none⟩)] w1 R) (R : Ending → World → Prop)
 (hR : ∀ w' r, Below w.heap.size w w' → (decide ((0 : Int) ≤ r) = xs.any p) → R (.returned (.int .i64 r)) w') :
 Calls Tryz.prog 133 #[v, .func (.func 151) #[] #[.pointer (some ⟨M, 0, none⟩)]] w R := by
 obtain ⟨A, c, rfl, hm, hcap, hs⟩ := h.cases_
 have Hs := Lib.hid hs
 have HR := Lib.hid hR
 have Hcl := Lib.hid hcl
 clear hR h hs hcl
 go_enter Tryz.func133, Tryz.ntmps133
 go_wp2
 go_loopg [5, 8] xs.length (fun g j i wr => ∃ k : Nat, k ≤ xs.length ∧ g = xs.length - k ∧ i = .int .i64 k ∧ (xs.take k).any p = false ∧ Below w.heap.size w wr)
 case atStart => exact ⟨0, Nat.zero_le _, rfl, rfl, rfl, Below.refl _ _⟩
 case round =>
  obtain ⟨k, hk, rfl, rfl, ht, hbel⟩ := hrel
  have Ht := Lib.hid ht
  have Hb := Lib.hid hbel
  have hz := hbel.size
  clear ht
  by_cases hlt : k < xs.length
  ·obtain ⟨b, off, rfl, hb, q0⟩ := Hs.out.int_at hlt
   have p0 := (hbel.cell (p := ⟨b, off + k, none⟩) hb).trans q0
   have lb : b < wr.heap.size := by omega
   have Hst : Hid ((xs.take (k + 1)).any p = p (xs.getD k 0)) := Lib.hid (by
    rw [any_take_step p hlt, Ht.out, Bool.false_or, List.getD_eq_getElem?_getD, List.getElem?_eq_getElem hlt]
    rfl)
   have hmem : xs.getD k 0 ∈ xs := by
    rw [List.getD_eq_getElem?_getD, List.getElem?_eq_getElem hlt]
    exact List.getElem_mem hlt
   have Hof : Hid (p (xs.getD k 0) = true → xs.any p = true) := Lib.hid fun h => List.any_eq_true.2 ⟨_, hmem, h⟩
   have Hcall := Lib.hid (Hcl.out (xs.getD k 0) wr hmem hbel)
   have i1 : (0 : Int) ≤ (k : Int) := Int.natCast_nonneg _
   have i2 : (k : Int) < (xs.length : Int) := by omega
   generalize xs.getD k 0 = a at *
   clear q0 hbel hmem
   go_wp2_with fail
   refine Hcall.out _ (fun w1 hb1 => ?_)
   have Hb2 := Lib.hid (Hb.out.trans (hb1.mono hz))
   clear hb1 Hcall
   generalize hx : p a = x at *
   have Hx := Lib.hid hx
   clear hx
   cases x
   ·go_wp2
    go_roundg (xs.length - (k + 1))
    case measure => omega
    case rel => exact ⟨k + 1, hlt, rfl, by go_num, Hst.out, Hb2.out⟩
   ·have hfin := Lib.hid (HR.out _ (k : Int) Hb2.out (by rw [Hof.out rfl]; exact decide_eq_true i1))
    go_wp2
    exact hfin.out
  ·obtain rfl : k = xs.length := by omega
   rw [List.take_length] at Ht
   have hfin := Lib.hid (HR.out _ (-1) hbel (by rw [Ht.out]; rfl))
   clear hbel
   go_wp2
   exact hfin.out
set_option maxHeartbeats 1000000 in
theorem contNw_calls (M : Nat) (xs : List Int) (p : Int → Bool) (v : Value) (w : World) (h : rpInt.SL w w.heap.size xs v)
 (hcl : ∀ (a : Int) w1, a ∈ xs → Below w.heap.size w w1 → ∀ R : Ending → World → Prop, (∀ w2, Below w1.heap.size w1 w2 → R (.returned (.bool (p a))) w2) → Calls Tryz.prog 151 #[.int .i64 a, .pointer (some ⟨M, 0, none⟩)] w1 R) (R : Ending → World → Prop)
 (hR : ∀ w', Below w.heap.size w w' → R (.returned (.bool (xs.any p))) w') :
 Calls Tryz.prog 105 #[v, .func (.func 151) #[] #[.pointer (some ⟨M, 0, none⟩)]] w R := by
 have HR := Lib.hid hR
 have Hcl := Lib.hid hcl
 clear hR hcl
 go_enter Tryz.func105, Tryz.ntmps105
 go_wp2_with fail
 refine idxNw_calls M xs p v _ h (fun a w1 ha hb => Hcl.out a w1 ha hb) _ (fun w1 r hb1 hr => ?_)
 have Hf := Lib.hid (HR.out _ hb1)
 have Hr := Lib.hid hr
 clear hr hb1 h
 go_wp2
 rw [Hr.out]
 exact Hf.out
set_option maxHeartbeats 1000000 in
theorem end1_calls (v0 v1 v2 v3 v4 v6 : Value) (bA : Option Addr) (bn bc' : Nat) (M : Nat) (Tc : TypeId) (a : Int) (w : World) (hc : w.heap[M]? = some (.cells #[v0, v1, v2, v3, v4, .slice bA bn bc', v6] Tc (0, 0))) (hb : bn ≤ maxLen) (R : Ending → World → Prop)
 (hR : ∀ w', Below w.heap.size w w' → R (.returned (.bool (!decide (1 ≤ a ∧ a ≤ (bn : Int) - 1)))) w') :
 Calls Tryz.prog 151 #[.int .i64 a, .pointer (some ⟨M, 0, none⟩)] w R := by
 obtain ⟨c0, c1, c2, c3, c4, c5, c6⟩ := ckr_cells hc
 have lc := blk_lt hc
 unfold maxLen at hb
 have HR := Lib.hid hR
 clear hR hc
 go_enter Tryz.func151, Tryz.ntmps151
 go_wp2_with fail
 refine Within_calls _ _ _ _ _ ?_
 generalize decide (1 ≤ a ∧ a ≤ (bn : Int) - 1) = d at *
 cases d
 ·go_wp2
  exact HR.out _ bl0
 ·go_wp2
  exact HR.out _ bl0
end Go.Proofs.YtdanebboiekieaaGreatDoor
namespace Go.Proofs.YtdanebboiekieaaGreatDoor
open Go.ChangeShapes Go.WideShapes Go.ChangeAt Go.RowKit
set_option linter.unusedVariables false
set_option linter.unusedSimpArgs false

theorem opensVal : rpVal.opens Tryz.prog 64 :=
 opens_as (fun x => ⟨x.1, x.2⟩) (fun _ => rfl) (opens_struct Tryz.underlying64 (by kernel_rfl) (fields_cons (opens_bool Tryz.underlying4 (by kernel_rfl)) rfl (fields_one (opens_int Tryz.underlying3 (by kernel_rfl)) rfl)))
theorem opensVals : rpVal.slice.opens Tryz.prog 69 := opens_slice Tryz.underlying69 (by kernel_rfl) (by decide) opensVal
theorem opensInt' : rpInt.opens Tryz.prog 3 := opens_int Tryz.underlying3 (by kernel_rfl)
theorem opensInts' : rpInt.slice.opens Tryz.prog 26 := opens_slice Tryz.underlying26 (by kernel_rfl) (by decide) opensInt'
theorem opensStr' : rpStr.opens Tryz.prog 9 := opens_str Tryz.underlying9 (by kernel_rfl)
theorem opensIns : rpIns.opens Tryz.prog 71 :=
 opens_as (fun x => ⟨x.1, x.2.1, x.2.2.1, x.2.2.2.1, x.2.2.2.2.1, x.2.2.2.2.2⟩) (fun _ => rfl) (opens_struct Tryz.underlying71 (by kernel_rfl) (fields_cons opensInt' rfl (fields_cons opensInt' rfl (fields_cons opensVal rfl (fields_cons opensVal rfl (fields_cons opensInt' rfl (fields_one opensVals rfl)))))))
theorem opensPhi : rpPhi.opens Tryz.prog 164 :=
 opens_as (fun x => ⟨x.1, x.2⟩) (fun _ => rfl) (opens_struct Tryz.underlying164 (by kernel_rfl) (fields_cons opensInt' rfl (fields_one opensVals rfl)))
theorem opensEnd : rpEnd.opens Tryz.prog 66 :=
 opens_as (fun x => ⟨x.1, x.2.1, x.2.2⟩) (fun _ => rfl) (opens_struct Tryz.underlying66 (by kernel_rfl) (fields_cons opensInt' rfl (fields_cons opensVal rfl (fields_one opensInts' rfl))))
theorem opensBlk : rpBlk.opens Tryz.prog 68 :=
 opens_as (fun x => ⟨x.1, x.2.1, x.2.2⟩) (fun _ => rfl) (opens_struct Tryz.underlying68 (by kernel_rfl) (fields_cons (opens_slice Tryz.underlying61 (by kernel_rfl) (by decide) opensPhi) rfl (fields_cons (opens_slice Tryz.underlying62 (by kernel_rfl) (by decide) opensIns) rfl (fields_one opensEnd rfl))))
theorem opensFun : rpFun.opens Tryz.prog 56 :=
 opens_as (fun x => ⟨x.1, x.2.1, x.2.2.1, x.2.2.2⟩) (fun _ => rfl) (opens_struct Tryz.underlying56 (by kernel_rfl) (fields_cons opensStr' rfl (fields_cons opensInt' rfl (fields_cons opensInt' rfl (fields_one (opens_slice Tryz.underlying54 (by kernel_rfl) (by decide) opensBlk) rfl)))))
theorem opensGlobal : rpGlobal.opens Tryz.prog 167 :=
 opens_as (fun x => ⟨x.1, x.2.1, x.2.2⟩) (fun _ => rfl) (opens_struct Tryz.underlying167 (by kernel_rfl) (fields_cons opensStr' rfl (fields_cons opensInt' rfl (fields_one opensInts' rfl))))
theorem opensUnit : rpUnt.opens Tryz.prog 25 :=
 opens_as (fun x => ⟨x.1, x.2⟩) (fun _ => rfl) (opens_struct Tryz.underlying25 (by kernel_rfl) (fields_cons (opens_slice Tryz.underlying22 (by kernel_rfl) (by decide) opensGlobal) rfl (fields_one (opens_slice Tryz.underlying23 (by kernel_rfl) (by decide) opensFun) rfl)))

def laidS {H : Type} : List (String × DataW H) := [("turnery/code.ways", Rows.laid_turnery_code_ways)]
theorem gWays : Tryz.prog.globalNamed "turnery/code.ways" = some 0 := by kernel_rfl
theorem tWays : (Tryz.prog.globals[0]?).map (·.type) = some 197 := by kernel_rfl
theorem door_met (os : Os) (args : Array Value) : laidMetH Tryz.prog laidS ((World.doorLaid Tryz.prog 400 os).forCall (fun _ _ => 0) ⟨#[], args, []⟩).memory :=
 laidMetH_of_parts3 (fuel := 8) (laidMet_of_run' 8 (by kernel_rfl) (by kernel_rfl)) (by kernel_rfl) (by kernel_rfl)
set_option maxRecDepth 100000 in
theorem of_laid {W : World} (h : laidMetH Tryz.prog laidS W) : Ways W := by
 rw [MakeChecks.laidMetH_plain _ _ _ (by kernel_rfl)] at h
 obtain ⟨ps, ⟨g0, t0, cs0, f0, p0, q0, hg0, ht0, hv0, hd0, _, _⟩, _, _⟩ := h
 obtain rfl := Option.some.inj (gWays.symm.trans hg0)
 obtain rfl := Option.some.inj (tWays.symm.trans ht0)
 obtain ⟨xs, m1, _, hx1, hlen, hn, hel⟩ := DataW.trod_array Tryz.underlying197 hd0
 have hx2 : Rows.laid_turnery_code_ways = DataW.agg (xs.map (·.1)) := congrArg Prod.fst hx1
 have ci : Tryz.prog.cellsOf 3 = 1 := by kernel_rfl
 unfold Rows.laid_turnery_code_ways at hx2
 injection hx2 with hx3
 have hv := fun i => World.var?_cell hg0 hv0 i
 have key : ∀ (k : Nat) (n : Int), k < 4 → (xs.map (·.1))[k]? = some (.lit (.int .i64 n)) → W.cell? ⟨0, k, none⟩ = some (.int .i64 n) := fun k n hk hx => by
  rw [List.getElem?_map, Option.map_eq_some_iff] at hx
  obtain ⟨x, hx, hxd⟩ := hx
  have he := hel k hk
  rw [hx, ci] at he
  obtain ⟨m, e0, e1, _⟩ := DataW.trod_int Tryz.underlying3 he
  subst e1
  injection hxd with h1
  injection h1 with _ h1
  subst h1
  rw [hv k]
  have h2 : ((cs0.toList.drop (k * 1)).take 1)[0]? = some (.int .i64 m) := by rw [e0]; rfl
  rw [List.getElem?_take, if_pos (by omega), List.getElem?_drop] at h2
  simpa using h2
 have k0 := key 0 0 (by omega) (by rw [← hx3]; rfl)
 exact ⟨World.block_lt_of_cell? W ⟨0, 0, none⟩ k0, key 1 0 (by omega) (by rw [← hx3]; rfl), key 2 1 (by omega) (by rw [← hx3]; rfl), key 3 2 (by omega) (by rw [← hx3]; rfl)⟩
end Go.Proofs.YtdanebboiekieaaGreatDoor
namespace Go.Proofs.YtdanebboiekieaaGreatDoor
open Go
set_option linter.unusedSimpArgs false
set_option linter.unusedVariables false

/-- How many have not come up. -/
def unlisted (l : Array Bool) : Nat := l.toList.countP (fun b => !b)
theorem unlisted_set {l : Array Bool} {i : Nat} (h : l.getD i true = false) : unlisted (l.setIfInBounds i true) + 1 = unlisted l := by
 obtain ⟨l⟩ := l
 have key : ∀ (l : List Bool) (i : Nat), (l[i]?).getD true = false → (l.set i true).countP (fun b => !b) + 1 = l.countP (fun b => !b) := by
  intro l
  induction l with
  | nil => intro i h; simp at h
  | cons x l ih =>
    intro i h
    cases i with
    | zero =>
      simp at h
      subst h
      simp [List.countP_cons]
    | succ i =>
      have := ih i (by simpa using h)
      simp only [List.set_cons_succ, List.countP_cons]
      omega
 have h' : (l[i]?).getD true = false := by
  simpa [Array.getD_eq_getD_getElem?] using h
 have := key l i h'
 simpa [unlisted] using this
theorem unlisted_none {l : Array Bool} (h : unlisted l = 0) (i : Nat) : l.getD i true = true := by
 obtain ⟨l⟩ := l
 unfold unlisted at h
 rw [List.countP_eq_zero] at h
 rw [Array.getD_eq_getD_getElem?]
 cases hx : (⟨l⟩ : Array Bool)[i]? with
 | none => rfl
 | some b =>
   have hm : b ∈ l := by
    have : l[i]? = some b := by simpa using hx
    exact List.mem_of_getElem? this
   have := h b hm
   simpa using this
theorem wpAny_inv {P : Program} {md : Region.Mode} {ops : Array Oper} {Q : Exit → Act → World → Prop} (I : Array Bool → Act → World → Prop)
 (hs : ∀ l a w i, l.size = ops.size → I l a w → i ∈ Region.ready md ops l → wpOp P ops Q i (fun a' w' => I (l.setIfInBounds i true) a' w') a w)
 (he : ∀ l a w, l.size = ops.size → I l a w → (∀ i, i < ops.size → l.getD i false = true) → Q .normal a w) (hw : ∀ l : Array Bool, l.size = ops.size → Region.ready md ops l = [] → ∀ i, i < ops.size → l.getD i false = true) :
 ∀ (fuel : Nat) (l : Array Bool) (a : Act) (w : World), l.size = ops.size → unlisted l ≤ fuel → I l a w → wpAny P md ops Q fuel l a w
 | 0, l, a, w, hz, hf, h => by
   have hr : Region.ready md ops l = [] := by
    cases hr : Region.ready md ops l with
    | nil => rfl
    | cons i rs =>
      have h1 := (mem_ready.1 (by rw [hr]; exact List.mem_cons_self .. : i ∈ Region.ready md ops l)).1
      rw [unlisted_none (by omega)] at h1
      cases h1
   exact ⟨hr, he l a w hz h (hw l hz hr)⟩
 | fuel + 1, l, a, w, hz, hf, h => by
   refine ⟨fun hr => he l a w hz h (hw l hz hr), fun i hi => ?_⟩
   have h1 := unlisted_set (mem_ready.1 hi).1
   exact wpOp_mono (fun a' w' h' => wpAny_inv I hs he hw fuel _ a' w' (by simpa using hz) (by omega) h') (hs l a w i hz h hi)
/-- A region whose operations wait, if at all, for earlier ones: nothing is ready only where all have come up. -/
theorem all_listed {md : Region.Mode} {ops : Array Oper} (hd : ∀ (i : Nat) (o : Oper), ops[i]? = some o → ∀ e ∈ o.after, Region.binds md e = true → e.on < i) (l : Array Bool) (hz : l.size = ops.size) (hr : Region.ready md ops l = []) : ∀ i, i < ops.size → l.getD i false = true := by
 intro i
 induction i using Nat.strongRecOn with
 | _ i ih =>
   intro hi
   cases hb : l.getD i false with
   | true => rfl
   | false =>
     exfalso
     have hl : l.getD i true = false := by
      have hlt : i < l.size := by omega
      simp only [Array.getD_eq_getD_getElem?, Array.getElem?_eq_getElem hlt, Option.getD_some] at hb ⊢
      exact hb
     have : i ∈ Region.ready md ops l := mem_ready.2 ⟨hl, ops[i], Array.getElem?_eq_getElem hi, fun e hm hb => ih e.on (hd i _ (Array.getElem?_eq_getElem hi) e hm hb) (by have := hd i _ (Array.getElem?_eq_getElem hi) e hm hb; omega)⟩
     rw [hr] at this
     cases this
theorem wp_region_inv {P : Program} {ops : Array Oper} {Q : Exit → Act → World → Prop} {id : Nat} {a : Act} {w : World} (hm : P.follows .mixedOrders = true) (I : Array Bool → Act → World → Prop)
 (h0 : I (Array.replicate ops.size false) a { w with drawn := w.drawn + 1 }) (hd : ∀ (i : Nat) (o : Oper), ops[i]? = some o → ∀ e ∈ o.after, Region.binds .any e = true → e.on < i)
 (hs : ∀ l a w i, l.size = ops.size → I l a w → i ∈ Region.ready .any ops l → wpOp P ops Q i (fun a' w' => I (l.setIfInBounds i true) a' w') a w)
 (he : ∀ l a w, l.size = ops.size → I l a w → (∀ i, i < ops.size → l.getD i false = true) → Q .normal a w) : (Code.region id ops true).wp P Q a w :=
 wp_region_any hm (wpAny_inv I hs he (fun l hz hr => all_listed hd l hz hr) _ _ _ _ (by simp) (by
  unfold unlisted
  exact Nat.le_trans List.countP_le_length (by simp)) h0)
def edgesB (ops : Array Oper) : Bool := (List.range ops.size).all fun i => match ops[i]? with | some o => o.after.all fun e => !Region.binds .any e || decide (e.on < i) | none => true
theorem edges_ok {ops : Array Oper} (h : edgesB ops = true) : ∀ (i : Nat) (o : Oper), ops[i]? = some o → ∀ e ∈ o.after, Region.binds .any e = true → e.on < i := fun i o ho e he hb => by
 unfold edgesB at h
 rw [List.all_eq_true] at h
 have h1 := h i (List.mem_range.2 (Array.getElem?_eq_some_iff.1 ho).1)
 rw [ho] at h1
 simp only [Array.all_eq_true_iff_forall_mem] at h1
 have h2 := h1 e he
 rw [hb] at h2
 simpa using h2
theorem getD_none {l : Array Bool} {i : Nat} (h : l.getD i true = false) : l.getD i false = false := by
 rw [Array.getD_eq_getD_getElem?] at h ⊢
 cases hx : l[i]? with
 | none => rfl
 | some b =>
   rw [hx] at h
   exact h
/-- An act by what its slots hold. -/
def over (a : Act) (L : List (Nat × Value)) : Act := L.foldl (fun a p => a.put (some p.1) p.2) a
theorem over_tmps : ∀ (L : List (Nat × Value)) (a : Act) (k : Nat), (∀ p ∈ L, p.1 < a.tmps.size) → (over a L).tmps[k]? = match L.reverse.find? (fun p => p.1 == k) with | some p => some p.2 | none => a.tmps[k]?
 | [], a, k, _ => rfl
 | p :: L, a, k, hL => by
   have ih := over_tmps L (a.put (some p.1) p.2) k (fun q hq => by have := hL q (by simp [hq]); simpa [Act.put] using this)
   show (over (a.put (some p.1) p.2) L).tmps[k]? = _
   rw [ih, List.reverse_cons, List.find?_append]
   cases hf : L.reverse.find? (fun p => p.1 == k) with
   | some q => rfl
   | none =>
     simp only [Option.none_or, List.find?_cons, List.find?_nil]
     show (a.tmps.setIfInBounds p.1 p.2)[k]? = _
     by_cases hk : p.1 = k
     ·subst hk
      have hlt : p.1 < a.tmps.size := hL p (by simp)
      simp [hlt]
     ·rw [Array.getElem?_setIfInBounds_ne hk, show (p.1 == k) = false from by simpa using hk]
theorem act_over {a a0 : Act} (L : List (Nat × Value)) (hL : ∀ p ∈ L, p.1 < a0.tmps.size) (hd : a.defers = a0.defers) (hs : ∀ p ∈ L, a.tmps[p.1]? = some p.2) (ho : ∀ k, (∀ p ∈ L, p.1 ≠ k) → a.tmps[k]? = a0.tmps[k]?) : a = over a0 L := by
 have hdf : ∀ (L : List (Nat × Value)) (a : Act), (over a L).defers = a.defers := by
  intro L
  induction L with
  | nil => intro a; rfl
  | cons q L ih2 => intro a; show (over (a.put (some q.1) q.2) L).defers = _; rw [ih2]; rfl
 have ht : a.tmps = (over a0 L).tmps := by
  apply Array.ext_getElem?
  intro k
  rw [over_tmps L a0 k hL]
  cases hf : L.reverse.find? (fun p => p.1 == k) with
  | none =>
    refine ho k fun p hp e => ?_
    have := List.find?_eq_none.1 hf p (by simpa using hp)
    simp [e] at this
  | some p =>
    have h1 := List.mem_of_find?_eq_some hf
    have h2 := List.find?_some hf
    have h3 : p.1 = k := by simpa using h2
    rw [← h3]
    exact hs p (by simpa using h1)
 cases a
 cases h : over a0 L
 rw [h] at ht
 have := hdf L a0
 rw [h] at this
 simp only at ht this hd
 rw [ht, hd, ← this]
end Go.Proofs.YtdanebboiekieaaGreatDoor
/- Words for rows of bytes that are appended to by calls: what may have been written, what the row holds. -/
namespace Go.Proofs.YtdanebboiekieaaGreatDoor
open Go.RowKit
set_option linter.unusedSimpArgs false
set_option linter.unusedVariables false

/-- From w to w' only blocks X have been written, and new ones. -/
structure Grew (X : Nat → Prop) (w w' : World) : Prop where
 os : w'.os = w.os
 tape : w'.tape = w.tape
 output : w'.output = w.output
 size : w.heap.size ≤ w'.heap.size
 block : ∀ k, k < w.heap.size → ¬ X k → w'.heap[k]? = w.heap[k]?
theorem Grew.refl (X : Nat → Prop) (w : World) : Grew X w w := ⟨rfl, rfl, rfl, Nat.le_refl _, fun _ _ _ => rfl⟩
theorem Grew.trans {X Y : Nat → Prop} {a b c : World} (h : Grew X a b) (k : Grew Y b c) (hs : ∀ j, j < a.heap.size → Y j → X j) : Grew X a c :=
 ⟨k.os.trans h.os, k.tape.trans h.tape, k.output.trans h.output, Nat.le_trans h.size k.size, fun j hj hX => (k.block j (Nat.lt_of_lt_of_le hj h.size) (fun hy => hX (hs j hj hy))).trans (h.block j hj hX)⟩
theorem Grew.more {X Y : Nat → Prop} {a b : World} (h : Grew X a b) (hs : ∀ j, j < a.heap.size → X j → Y j) : Grew Y a b := (Grew.refl Y a).trans h hs
theorem Grew.of_grown {w w' : World} {row : Option Nat} (h : w.grownBy w' row) : Grew (fun k => row = some k) w w' := ⟨h.os, h.tape, h.output, h.size, fun k hk hx => h.block k hk (fun e => hx e.symm)⟩
theorem Grew.of_below {X : Nat → Prop} {B : Nat} {w w' : World} (h : Below B w w') (hB : ∀ k, B ≤ k → k < w.heap.size → X k) : Grew X w w' := ⟨h.os, h.tape, h.output, h.size, fun k hk hX => h.block k (by
 rcases Nat.lt_or_ge k B with hlt | hge
 ·exact hlt
 ·exact absurd (hB k hge hk) hX)⟩
theorem Grew.below {X : Nat → Prop} {B : Nat} {w w' : World} (h : Grew X w w') (hX : ∀ k, k < B → ¬ X k) (hB : B ≤ w.heap.size) : Below B w w' := ⟨h.os, h.tape, h.output, h.size, fun k hk => h.block k (by omega) (hX k hk)⟩
theorem Grew.on {X : Nat → Prop} {a w w' : World} (h : Grew X a w) (hb : Below w.heap.size w w') : Grew X a w' :=
 h.trans (Grew.of_below (X := fun _ => False) hb (fun k h1 h2 => by omega)) (fun _ _ h => h.elim)
theorem Grew.alloc {X : Nat → Prop} {a w : World} (h : Grew X a w) (o : Obj) : Grew X a (w.alloc o) := h.on ((Below.refl _ _).alloc (Nat.le_refl _) o)
theorem Grew.setCell {X : Nat → Prop} {a w : World} (h : Grew X a w) (p : Addr) (hp : X p.block ∨ a.heap.size ≤ p.block) (u : Value) : Grew X a (w.setCell p u) :=
 h.trans (Grew.of_grown (grown_setCell w p u)) (fun j hj e => by
  have : p.block = j := Option.some.inj e
  subst this
  rcases hp with hp | hp
  ·exact hp
  ·omega)

end Go.Proofs.YtdanebboiekieaaGreatDoor

/- append onto a row of bytes of the call's own, from any slice of bytes or from a text: the laws for the walk. -/
namespace Go.Proofs.YtdanebboiekieaaGreatDoor
open Go.RowKit
set_option linter.unusedSimpArgs false
set_option linter.unusedVariables false

end Go.Proofs.YtdanebboiekieaaGreatDoor

/- bytes.Number and its writer; a number as bytes, by the document. -/
namespace Go.Proofs.YtdanebboiekieaaGreatDoor
open Go.RowKit
set_option linter.unusedSimpArgs false
set_option linter.unusedVariables false

end Go.Proofs.YtdanebboiekieaaGreatDoor

/- The writer of bytes: numbers, texts; sums of bytes; numbers folded. -/
namespace Go.Proofs.YtdanebboiekieaaGreatDoor
open Go.RowKit
set_option linter.unusedSimpArgs false
set_option linter.unusedVariables false

end Go.Proofs.YtdanebboiekieaaGreatDoor

/- Numbers folded. -/
namespace Go.Proofs.YtdanebboiekieaaGreatDoor
open Go.RowKit
set_option linter.unusedSimpArgs false
set_option linter.unusedVariables false

end Go.Proofs.YtdanebboiekieaaGreatDoor

/- An object's bytes, plainly. -/
namespace Go.Proofs.YtdanebboiekieaaGreatDoor
open Go.RowKit
set_option linter.unusedSimpArgs false
set_option linter.unusedVariables false

end Go.Proofs.YtdanebboiekieaaGreatDoor
namespace Go.Proofs.YtdanebboiekieaaGreatDoor
open Go.RowKit
set_option linter.unusedSimpArgs false
set_option linter.unusedVariables false

def vals (a : Act) (k : Nat) : Value := a.tmps.getD k undef
def setVl (val : Nat → Value) (k : Nat) (v : Value) (j : Nat) : Value := if j = k then v else val j
def don (d : Nat → Bool) (i k : Nat) : Bool := if k = i then true else d k
theorem vals_put {a : Act} {k : Nat} {v : Value} (h : k < a.tmps.size) : vals (a.put (some k) v) = setVl (vals a) k v := by
 funext j
 unfold vals setVl
 show (a.tmps.setIfInBounds k v).getD j undef = _
 show _ = if j = k then v else a.tmps.getD j undef
 rw [Array.getD_eq_getD_getElem?, Array.getElem?_setIfInBounds, Array.getD_eq_getD_getElem?]
 by_cases e : k = j
 ·subst e
  simp [h]
 ·rw [if_neg e, if_neg (fun h => e h.symm)]
structure Ag (slots : List Nat) (a0 a : Act) : Prop where
 sz : a.tmps.size = a0.tmps.size
 df : a.defers = a0.defers
 ot : ∀ k, k ∉ slots → a.tmps[k]? = a0.tmps[k]?
 hs : ∀ k ∈ slots, k < a0.tmps.size
theorem Ag.put {slots : List Nat} {a0 a : Act} (h : Ag slots a0 a) {k : Nat} (hk : k ∈ slots) (v : Value) : Ag slots a0 (a.put (some k) v) := by
 refine ⟨by simpa [Act.put] using h.sz, h.df, fun j hj => ?_, h.hs⟩
 show (a.tmps.setIfInBounds k v)[j]? = _
 rw [Array.getElem?_setIfInBounds_ne (by rintro rfl; exact hj hk)]
 exact h.ot j hj
theorem Ag.old {slots : List Nat} {a0 a : Act} (h : Ag slots a0 a) {k : Nat} (hk : k ∉ slots) : vals a k = vals a0 k := by
 unfold vals
 rw [Array.getD_eq_getD_getElem?, Array.getD_eq_getD_getElem?, h.ot k hk]
theorem Ag.over {slots : List Nat} {a0 a : Act} (h : Ag slots a0 a) : a = over a0 (slots.map fun k => (k, vals a k)) := by
 refine act_over _ (fun p hp => ?_) h.df (fun p hp => ?_) (fun k hk => h.ot k (fun hm => hk (k, vals a k) (List.mem_map.2 ⟨k, hm, rfl⟩) rfl))
 ·obtain ⟨k, hk, rfl⟩ := List.mem_map.1 hp
  exact h.hs k hk
 ·obtain ⟨k, hk, rfl⟩ := List.mem_map.1 hp
  have hlt : k < a.tmps.size := by rw [h.sz]; exact h.hs k hk
  show a.tmps[k]? = some (vals a k)
  unfold vals
  rw [Array.getD_eq_getD_getElem?, Array.getElem?_eq_getElem hlt]
  rfl
theorem don_set {l : Array Bool} {i : Nat} (h : i < l.size) : (fun k => (l.setIfInBounds i true).getD k false) = don (fun k => l.getD k false) i := by
 funext k
 unfold don
 simp only [Array.getD_eq_getD_getElem?, Array.getElem?_setIfInBounds]
 by_cases e : k = i
 ·subst e
  simp [h]
 ·rw [if_neg (fun h => e h.symm), if_neg e]
def guardsB (ops : Array Oper) : Bool := ops.all fun o => o.guard.isNone
theorem guards_ok {ops : Array Oper} (h : guardsB ops = true) : ∀ (i : Nat) (o : Oper), ops[i]? = some o → o.guard = none := fun i o ho => by
 unfold guardsB at h
 rw [Array.all_eq_true_iff_forall_mem] at h
 have := h o (Array.mem_of_getElem? ho)
 cases hg : o.guard with
 | none => rfl
 | some g => rw [hg] at this; cases this
/-- What a step has to bring about. -/
def Aft (slots : List Nat) (a0 : Act) (I : (Nat → Bool) → (Nat → Value) → World → Prop) (d : Nat → Bool) (i : Nat) (a' : Act) (w' : World) : Prop := Ag slots a0 a' ∧ I (don d i) (vals a') w'
theorem reg_inv {P : Program} {ops : Array Oper} {Q : Exit → Act → World → Prop} {id : Nat} {a0 : Act} {w : World} (hm : P.follows .mixedOrders = true) (slots : List Nat) (I : (Nat → Bool) → (Nat → Value) → World → Prop)
 (hd : ∀ (i : Nat) (o : Oper), ops[i]? = some o → ∀ e ∈ o.after, Region.binds .any e = true → e.on < i) (hsl : ∀ k ∈ slots, k < a0.tmps.size) (hgd : ∀ (i : Nat) (o : Oper), ops[i]? = some o → o.guard = none)
 (h0 : I (fun _ => false) (vals a0) w.drew)
 (hs : ∀ (d : Nat → Bool) a w' i o, ops[i]? = some o → d i = false → (∀ e ∈ o.after, Region.binds .any e = true → d e.on = true) → Ag slots a0 a → I d (vals a) w' → o.wp P a w' (Aft slots a0 I d i) Q)
 (he : ∀ (d : Nat → Bool) vs w', (∀ i, i < ops.size → d i = true) → (∀ k, k ∉ slots → vs k = vals a0 k) → I d vs w' → Q .normal (over a0 (slots.map fun k => (k, vs k))) w') : (Code.region id ops true).wp P Q a0 w := by
 refine wp_region_inv hm (fun l a w' => Ag slots a0 a ∧ I (fun k => l.getD k false) (vals a) w') ⟨⟨rfl, rfl, fun _ _ => rfl, hsl⟩, ?_⟩ hd ?_ ?_
 ·have hf : (fun k => (Array.replicate ops.size false).getD k false) = (fun _ => false) := by
   funext k
   rw [Array.getD_eq_getD_getElem?, Array.getElem?_replicate]
   split <;> rfl
  rw [hf]
  exact h0
 ·rintro l a w' i hz ⟨hag, H⟩ hi
  obtain ⟨hun, o, ho, hall⟩ := mem_ready.1 hi
  have hlt : i < l.size := by
   rw [hz]
   exact (Array.getElem?_eq_some_iff.1 ho).1
  have := hs (fun k => l.getD k false) a w' i o ho (getD_none hun) (fun e he hb => hall e he hb) hag H
  unfold wpOp
  simp only [ho]
  rw [if_pos (by simp [Region.wanted, hgd i o ho])]
  refine .inl (Oper.wp_mono (fun a' w'' h => ?_) this)
  rw [don_set hlt]
  exact h
 ·rintro l a w' hz ⟨hag, H⟩ hall
  rw [hag.over]
  exact he _ _ w' hall (fun k hk => hag.old hk) H
theorem reg_value {P : Program} {slots : List Nat} {a0 a : Act} {I : (Nat → Bool) → (Nat → Value) → World → Prop} {d : Nat → Bool} {i k : Nat} {Q : Exit → Act → World → Prop} {o : Oper} {w w' : World} {v : Value} (hag : Ag slots a0 a) (hdst : o.dst = some k) (hk : k ∈ slots)
 (hr : (execOp a.eval o).run P w = .ok (.value v) w') (h : I (don d i) (setVl (vals a) k v) w') : o.wp P a w (Aft slots a0 I d i) Q := by
 unfold Oper.wp
 rw [hr]
 show Aft slots a0 I d i (a.put o.dst v) w'
 rw [hdst]
 refine ⟨hag.put hk v, ?_⟩
 rw [vals_put (by rw [hag.sz]; exact hag.hs k hk)]
 exact h
theorem reg_skip {P : Program} {slots : List Nat} {a0 a : Act} {I : (Nat → Bool) → (Nat → Value) → World → Prop} {d : Nat → Bool} {i : Nat} {Q : Exit → Act → World → Prop} {o : Oper} {w w' : World} (hag : Ag slots a0 a) (hdst : o.dst = none)
 (hr : (execOp a.eval o).run P w = .ok .skip w') (h : I (don d i) (vals a) w') : o.wp P a w (Aft slots a0 I d i) Q := by
 unfold Oper.wp
 rw [hr]
 show Aft slots a0 I d i (a.put o.dst undef) w'
 rw [hdst]
 exact ⟨hag, h⟩
end Go.Proofs.YtdanebboiekieaaGreatDoor
namespace Go.Proofs.YtdanebboiekieaaGreatDoor
open Go.RowKit
set_option linter.unusedSimpArgs false
set_option linter.unusedVariables false

theorem wpAnyIn_inv {F : Fence} {n : Nat} {P : Program} {md : Region.Mode} {ops : Array Oper} {Q : Exit → Act → World → Prop} (I : Array Bool → Act → World → Prop)
 (hs : ∀ l a w i, l.size = ops.size → I l a w → i ∈ Region.ready md ops l → wpOpIn F n P ops Q i (fun a' w' => I (l.setIfInBounds i true) a' w') a w)
 (he : ∀ l a w, l.size = ops.size → I l a w → (∀ i, i < ops.size → l.getD i false = true) → Q .normal a w) (hw : ∀ l : Array Bool, l.size = ops.size → Region.ready md ops l = [] → ∀ i, i < ops.size → l.getD i false = true) :
 ∀ (fuel : Nat) (l : Array Bool) (a : Act) (w : World), l.size = ops.size → unlisted l ≤ fuel → I l a w → wpAnyIn F n P md ops Q fuel l a w
 | 0, l, a, w, hz, hf, h => by
   have hr : Region.ready md ops l = [] := by
    cases hr : Region.ready md ops l with
    | nil => rfl
    | cons i rs =>
      have h1 := (mem_ready.1 (by rw [hr]; exact List.mem_cons_self .. : i ∈ Region.ready md ops l)).1
      rw [unlisted_none (by omega)] at h1
      cases h1
   exact ⟨hr, he l a w hz h (hw l hz hr)⟩
 | fuel + 1, l, a, w, hz, hf, h => by
   refine ⟨fun hr => he l a w hz h (hw l hz hr), fun i hi => ?_⟩
   have h1 := unlisted_set (mem_ready.1 hi).1
   exact wpOpIn_mono (fun a' w' h' => wpAnyIn_inv I hs he hw fuel _ a' w' (by simpa using hz) (by omega) h') (hs l a w i hz h hi)
theorem yielded_vals {ops : Array Oper} {a : Act} {j k : Nat} {o : Oper} (ho : ops[j]? = some o) (hd : o.dst = some k) (hk : k < a.tmps.size) : yielded ops a.tmps j = match vals a k with | .bool b => some b | _ => none := by
 unfold yielded vals
 rw [ho, Array.getD_eq_getD_getElem?]
 simp only [Option.bind_some, hd, Array.getElem?_eq_getElem hk, Option.getD_some]
 cases a.tmps[k] <;> rfl
/-- Is an operation wanted, by its guard's slot? -/
theorem wanted_none {ops : Array Oper} {o : Oper} {a : Act} (h : o.guard = none) : Region.wanted o (yielded ops a.tmps) = true := by simp [Region.wanted, h]
theorem wanted_yes {ops : Array Oper} {o og : Oper} {a : Act} {j k : Nat} {b : Bool} (h : o.guard = some (j, b)) (ho : ops[j]? = some og) (hd : og.dst = some k) (hk : k < a.tmps.size) {c : Bool} (hv : vals a k = .bool c) : Region.wanted o (yielded ops a.tmps) = (c == b) := by
 unfold Region.wanted
 rw [h]
 simp only [yielded_vals ho hd hk, hv]
 cases c <;> cases b <;> rfl
/-- What a step has to bring about: where the operation is wanted, and where it is not. -/
def StepIn (F : Fence) (n : Nat) (P : Program) (ops : Array Oper) (Q : Exit → Act → World → Prop) (slots : List Nat) (a0 : Act) (I : (Nat → Bool) → (Nat → Value) → World → Prop) (d : Nat → Bool) (i : Nat) (o : Oper) (a : Act) (w : World) : Prop :=
 if Region.wanted o (yielded ops a.tmps) = true then o.wpIn F n P a w (Aft slots a0 I d i) Q else (∀ f, o.about P w a.eval = some f → F.fn f) ∧ Aft slots a0 I d i (a.put o.dst undef) w
theorem regIn_inv {F : Fence} {n : Nat} {P : Program} {ops : Array Oper} {Q : Exit → Act → World → Prop} {id : Nat} {a0 : Act} {w : World} (hm : P.follows .mixedOrders = true) (slots : List Nat) (I : (Nat → Bool) → (Nat → Value) → World → Prop)
 (hd : ∀ (i : Nat) (o : Oper), ops[i]? = some o → ∀ e ∈ o.after, Region.binds .any e = true → e.on < i) (hsl : ∀ k ∈ slots, k < a0.tmps.size)
 (h0 : I (fun _ => false) (vals a0) w.drew)
 (hs : ∀ (d : Nat → Bool) a w' i o, ops[i]? = some o → d i = false → (∀ e ∈ o.after, Region.binds .any e = true → d e.on = true) → Ag slots a0 a → I d (vals a) w' → StepIn F n P ops Q slots a0 I d i o a w')
 (he : ∀ (d : Nat → Bool) vs w', (∀ i, i < ops.size → d i = true) → (∀ k, k ∉ slots → vs k = vals a0 k) → I d vs w' → Q .normal (over a0 (slots.map fun k => (k, vs k))) w') : (Code.region id ops true).wpIn F n P Q a0 w := by
 refine wpIn_region_any hm (wpAnyIn_inv (fun l a w' => Ag slots a0 a ∧ I (fun k => l.getD k false) (vals a) w') ?_ ?_ (fun l hz hr => all_listed hd l hz hr) _ _ _ _ (by simp) (by
  unfold unlisted
  exact Nat.le_trans List.countP_le_length (by simp)) ⟨⟨rfl, rfl, fun _ _ => rfl, hsl⟩, ?_⟩)
 ·rintro l a w' i hz ⟨hag, H⟩ hi
  obtain ⟨hun, o, ho, hall⟩ := mem_ready.1 hi
  have hlt : i < l.size := by
   rw [hz]
   exact (Array.getElem?_eq_some_iff.1 ho).1
  have := hs (fun k => l.getD k false) a w' i o ho (getD_none hun) (fun e he hb => hall e he hb) hag H
  unfold wpOpIn
  simp only [ho]
  unfold StepIn at this
  by_cases hwn : Region.wanted o (yielded ops a.tmps) = true
  ·rw [if_pos hwn] at this ⊢
   refine Oper.wpIn_mono (fun a' w'' h => ?_) this
   rw [don_set hlt]
   exact h
  ·rw [if_neg hwn] at this ⊢
   refine ⟨this.1, ?_⟩
   rw [don_set hlt]
   exact this.2
 ·rintro l a w' hz ⟨hag, H⟩ hall
  rw [hag.over]
  exact he _ _ w' hall (fun k hk => hag.old hk) H
 ·have hf : (fun k => (Array.replicate ops.size false).getD k false) = (fun _ => false) := by
   funext k
   rw [Array.getD_eq_getD_getElem?, Array.getElem?_replicate]
   split <;> rfl
  rw [hf]
  exact h0
theorem stepIn_value {F : Fence} {n : Nat} {P : Program} {ops : Array Oper} {slots : List Nat} {a0 a : Act} {I : (Nat → Bool) → (Nat → Value) → World → Prop} {d : Nat → Bool} {i k : Nat} {Q : Exit → Act → World → Prop} {o : Oper} {w w' : World} {v : Value} (hag : Ag slots a0 a) (hdst : o.dst = some k) (hk : k ∈ slots)
 (hwn : Region.wanted o (yielded ops a.tmps) = true) (hab : ∀ f, o.about P w a.eval = some f → F.fn f) (hc : ∀ c, o.op ≠ .defer c)
 (hr : (execOp a.eval o).run P w = .ok (.value v) w') (h : I (don d i) (setVl (vals a) k v) w') : StepIn F n P ops Q slots a0 I d i o a w := by
 unfold StepIn
 rw [if_pos hwn]
 unfold Oper.wpIn
 refine ⟨hab, ?_⟩
 rw [Oper.semAt_plain F _ _ hc, hr]
 show Aft slots a0 I d i (a.put o.dst v) w'
 rw [hdst]
 refine ⟨hag.put hk v, ?_⟩
 rw [vals_put (by rw [hag.sz]; exact hag.hs k hk)]
 exact h
theorem stepIn_not {F : Fence} {n : Nat} {P : Program} {ops : Array Oper} {slots : List Nat} {a0 a : Act} {I : (Nat → Bool) → (Nat → Value) → World → Prop} {d : Nat → Bool} {i k : Nat} {Q : Exit → Act → World → Prop} {o : Oper} {w : World} (hag : Ag slots a0 a) (hdst : o.dst = some k) (hk : k ∈ slots)
 (hwn : Region.wanted o (yielded ops a.tmps) = false) (hab : ∀ f, o.about P w a.eval = some f → F.fn f)
 (h : I (don d i) (setVl (vals a) k undef) w) : StepIn F n P ops Q slots a0 I d i o a w := by
 unfold StepIn
 rw [if_neg (by rw [hwn]; decide)]
 refine ⟨hab, ?_⟩
 rw [hdst]
 refine ⟨hag.put hk undef, ?_⟩
 rw [vals_put (by rw [hag.sz]; exact hag.hs k hk)]
 exact h
theorem stepIn_yield {F : Fence} {n : Nat} {P : Program} {ops : Array Oper} {slots : List Nat} {a0 a : Act} {I : (Nat → Bool) → (Nat → Value) → World → Prop} {d : Nat → Bool} {i k : Nat} {Q : Exit → Act → World → Prop} {o : Oper} {w : World} {l : Nat} {fn : FuncId} {tmps : Array Value} {asg body : Code} {R : Ending → World → Prop} (hag : Ag slots a0 a) (hdst : o.dst = some k) (hk : k ∈ slots)
 (hwn : Region.wanted o (yielded ops a.tmps) = true) (hab : ∀ f, o.about P w a.eval = some f → F.fn f) (hc : ∀ c, o.op ≠ .defer c) (hdp : F.depth.isSome = true → 1 ≤ n)
 (hr : (execOp a.eval o).run P w = .ok (.round l fn tmps asg body) w) (hR : RoundIn F (n - 1) P l fn tmps asg body w R) (h : ∀ e w', R e w' → ∃ v, e = .returned v ∧ I (don d i) (setVl (vals a) k v) w') : StepIn F n P ops Q slots a0 I d i o a w := by
 unfold StepIn
 rw [if_pos hwn]
 unfold Oper.wpIn
 refine ⟨hab, ?_⟩
 rw [Oper.semAt_plain F _ _ hc, hr]
 refine ⟨hdp, hR.mono fun e w' he => ?_⟩
 obtain ⟨v, rfl, hI⟩ := h e w' he
 show Aft slots a0 I d i (a.put o.dst v) w'
 rw [hdst]
 refine ⟨hag.put hk v, ?_⟩
 rw [vals_put (by rw [hag.sz]; exact hag.hs k hk)]
 exact hI
end Go.Proofs.YtdanebboiekieaaGreatDoor
