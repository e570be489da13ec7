/- The walks, part 4. -/
import Derived.Test.YtdanebboiekieaaGreatDoorP03
import Derived.LaidMore
import Derived.ShutString
import Derived.Stop.Joined
import Derived.Laws.AppendOwnNone
import Derived.OwnWalkIn
set_option linter.unusedSimpArgs false
set_option linter.unusedVariables false
set_option maxRecDepth 100000
set_option maxHeartbeats 16000000
namespace Go.Proofs.YtdanebboiekieaaGreatDoor
open Go.RowKit
theorem qg3 (gA fA bA aA : Option Addr) (gn gc fn fc bn bc' an ac : Nat) (nm : ByteArray) (pr rg : Int) (u : Unt) (x : UIns) (va : Value) (hrg : I64 rg) (h0 : -9223372036854775807 ≤ rg) (w : World)
 (hf : rpFun.SL w w.heap.size u.funcs (.slice fA fn fc)) (ha : rpVal.SL w w.heap.size x.args va)
 (R : Ending -> World -> Prop) (hR : ∀ w', Below w.heap.size w w' -> R (.returned (.int .i64 (insF u rg x))) w') :
 Calls Tryz.prog 138 #[(.agg #[.slice gA gn gc, .slice fA fn fc, .string nm, .int .i64 pr, .int .i64 rg, .slice bA bn bc', .slice aA an ac]), .agg #[.int .i64 x.op, .int .i64 x.dst, .bool x.a.reg, .int .i64 x.a.n, .bool x.b.reg, .int .i64 x.b.n, .int .i64 x.fn, va]] w R := by
 obtain ⟨A, c, rfl, _, _, ha⟩ := ha.cases_
 by_cases hop : ¬ (1 ≤ x.op ∧ x.op ≤ 22)
 ·have e : insF u rg x = 4 := by unfold insF; rw [if_pos hop]
  rw [e] at hR
  have hd : decide (1 ≤ x.op ∧ x.op ≤ 22) = false := by simpa using hop
  have HR := lh hR
  clear hR e hop hf ha
  go_enter Tryz.func138, Tryz.ntmps138
  go_wp2_with (refine qd _ _ _ _ _ ?_; rw [hd])
  exact HR.out _ bl0
 have hop := Decidable.of_not_not hop
 by_cases h1 : x.op = 1 ∨ x.op = 16 ∨ x.op = 17 ∨ x.op = 18
 ·exact qhd gA fA bA aA gn gc fn fc bn bc' an ac nm pr rg u x A c hrg h0 w hf ha hop (by unfold opDst; simp; omega) (by unfold opA; simp; omega) (by unfold opB; simp; omega) (by simp; omega) R hR
 by_cases h2 : x.op ≤ 15
 ·exact qjk gA fA bA aA gn gc fn fc bn bc' an ac nm pr rg u x A c hrg h0 w hf ha hop (by unfold opDst; simp; omega) (by unfold opA; simp; omega) (by unfold opB; simp; omega) (by simp; omega) R hR
 by_cases h3 : x.op = 19
 ·exact qes gA fA bA aA gn gc fn fc bn bc' an ac nm pr rg u x A c hrg h0 w hf ha hop (by unfold opDst; simp; omega) (by unfold opA; simp; omega) (by unfold opB; simp; omega) (by simp; omega) R hR
 by_cases h4 : x.op = 20
 ·exact qh7 gA fA bA aA gn gc fn fc bn bc' an ac nm pr rg u x A c hrg h0 w hf ha hop (by unfold opDst; simp; omega) (by unfold opA; simp; omega) (by unfold opB; simp; omega) (by simp; omega) R hR
 by_cases h5 : x.op = 21
 ·exact qhk gA fA bA aA gn gc fn fc bn bc' an ac nm pr rg u x A c hrg h0 w hf ha hop (by unfold opDst; simp; omega) (by unfold opA; simp; omega) (by unfold opB; simp; omega) (by simp; omega) R hR
 ·exact qei gA fA bA aA gn gc fn fc bn bc' an ac nm pr rg u x A c hrg h0 w hf ha hop (by unfold opDst; simp; omega) (by unfold opA; simp; omega) (by unfold opB; simp; omega) (by simp; omega) R hR
def Ways (w : World) : Prop := 0 < w.heap.size ∧ w.cell? ⟨0, 1, none⟩ = some (.int .i64 0) ∧ w.cell? ⟨0, 2, none⟩ = some (.int .i64 1) ∧ w.cell? ⟨0, 3, none⟩ = some (.int .i64 2)
theorem Ways.up {w w' : World} {B : Nat} (h : Ways w) (hb : Below B w w') (hB : 0 < B) : Ways w' :=
 ⟨Nat.lt_of_lt_of_le h.1 hb.size, (hb.cell hB).trans h.2.1, (hb.cell hB).trans h.2.2.1, (hb.cell hB).trans h.2.2.2⟩
theorem q2r {α : Type} (p : α -> Bool) {l : List α} {k : Nat} (h : k < l.length) : (l.take (k + 1)).any p = ((l.take k).any p || p l[k]) := by
 rw [List.take_succ_eq_append_getElem h, List.any_append]
 simp
theorem qaw (M : Nat) (xs : List Int) (p : Int -> Bool) (v : Value) (w : World) (h : rpInt.SL w w.heap.size xs v)
 (hcl : ∀ (a : Int) w1, a ∈ xs -> Below w.heap.size w w1 -> ∀ R : Ending -> World -> Prop, (∀ w2, Below w1.heap.size w1 w2 -> R (.returned (.bool (p a))) w2) -> Calls Tryz.prog 151 #[.int .i64 a, .pointer (some ⟨M, 0, none⟩)] w1 R) (R : Ending -> World -> Prop)
 (hR : ∀ w' r, Below w.heap.size w w' -> (decide ((0 : Int) ≤ r) = xs.any p) -> R (.returned (.int .i64 r)) w') :
 Calls Tryz.prog 133 #[v, .func (.func 151) #[] #[.pointer (some ⟨M, 0, none⟩)]] w R := by
 obtain ⟨A, c, rfl, hm, hcap, hs⟩ := h.cases_
 obtain ⟨Hs, HR, Hcl⟩ := lh3 hs hR hcl
 clear hR h hs hcl
 go_enter Tryz.func133, Tryz.ntmps133
 go_wp2
 go_loopg [5, 8] xs.length (fun g j i wr => ∃ k : Nat, k ≤ xs.length ∧ g = xs.length - k ∧ i = .int .i64 k ∧ (xs.take k).any p = false ∧ Below w.heap.size w wr)
 case atStart => exact ⟨0, Nat.zero_le _, rfl, rfl, rfl, Below.refl _ _⟩
 case round =>
  obtain ⟨k, hk, rfl, rfl, ht, hbel⟩ := hrel
  obtain ⟨Ht, Hb⟩ := lh2 ht hbel
  have hz := hbel.size
  clear ht
  by_cases hlt : k < xs.length
  ·obtain ⟨b, off, rfl, hb, q0⟩ := Hs.out.int_at hlt
   have p0 := (hbel.cell (p := ⟨b, off + k, none⟩) hb).trans q0
   have lb : b < wr.heap.size := by omega
   have Hst : Hid ((xs.take (k + 1)).any p = p (xs.getD k 0)) := lh (by
    rw [q2r p hlt, Ht.out, Bool.false_or, List.getD_eq_getElem?_getD, List.getElem?_eq_getElem hlt]
    rfl)
   have hmem : xs.getD k 0 ∈ xs := by
    rw [List.getD_eq_getElem?_getD, List.getElem?_eq_getElem hlt]
    exact List.getElem_mem hlt
   have Hof : Hid (p (xs.getD k 0) = true -> xs.any p = true) := lh fun h => List.any_eq_true.2 ⟨_, hmem, h⟩
   have Hcall := lh (Hcl.out (xs.getD k 0) wr hmem hbel)
   have i1 := nnn k
   have i2 : (k : Int) < (xs.length : Int) := by omega
   generalize xs.getD k 0 = a at *
   clear q0 hbel hmem
   go_wp2_with fail
   refine Hcall.out _ (fun w1 hb1 => ?_)
   have Hb2 := btt Hb hb1 hz
   clear hb1 Hcall
   generalize hx : p a = x at *
   have Hx := lh hx
   clear hx
   cases x
   ·go_wp2
    go_roundg (xs.length - (k + 1))
    case measure => omega
    case rel => exact ⟨k + 1, hlt, rfl, by go_num, Hst.out, Hb2.out⟩
   ·have hfin := lh (HR.out _ (k : Int) Hb2.out (by rw [Hof.out rfl]; exact decide_eq_true i1))
    go_wp2
    exact hfin.out
  ·obtain rfl : k = xs.length := by omega
   rw [List.take_length] at Ht
   have hfin := lh (HR.out _ (-1) hbel (by rw [Ht.out]; rfl))
   clear hbel
   go_wp2
   exact hfin.out
theorem q0t (M : Nat) (xs : List Int) (p : Int -> Bool) (v : Value) (w : World) (h : rpInt.SL w w.heap.size xs v)
 (hcl : ∀ (a : Int) w1, a ∈ xs -> Below w.heap.size w w1 -> ∀ R : Ending -> World -> Prop, (∀ w2, Below w1.heap.size w1 w2 -> R (.returned (.bool (p a))) w2) -> Calls Tryz.prog 151 #[.int .i64 a, .pointer (some ⟨M, 0, none⟩)] w1 R) (R : Ending -> World -> Prop)
 (hR : ∀ w', Below w.heap.size w w' -> R (.returned (.bool (xs.any p))) w') :
 Calls Tryz.prog 105 #[v, .func (.func 151) #[] #[.pointer (some ⟨M, 0, none⟩)]] w R := by
 obtain ⟨HR, Hcl⟩ := lh2 hR hcl
 clear hR hcl
 go_enter Tryz.func105, Tryz.ntmps105
 go_wp2_with fail
 refine qaw M xs p v _ h (fun a w1 ha hb => Hcl.out a w1 ha hb) _ (fun w1 r hb1 hr => ?_)
 have Hf := lh (HR.out _ hb1)
 have Hr := lh hr
 clear hr hb1 h
 go_wp2
 rw [Hr.out]
 exact Hf.out
theorem q1m (v0 v1 v2 v3 v4 v6 : Value) (bA : Option Addr) (bn bc' : Nat) (M : Nat) (Tc : TypeId) (a : Int) (w : World) (hc : w.heap[M]? = some (.cells #[v0, v1, v2, v3, v4, .slice bA bn bc', v6] Tc (0, 0))) (hb : bn ≤ maxLen) (R : Ending -> World -> Prop)
 (hR : ∀ w', Below w.heap.size w w' -> R (.returned (.bool (!decide (1 ≤ a ∧ a ≤ (bn : Int) - 1)))) w') :
 Calls Tryz.prog 151 #[.int .i64 a, .pointer (some ⟨M, 0, none⟩)] w R := by
 obtain ⟨c0, c1, c2, c3, c4, c5, c6⟩ := qx hc
 have lc := qc hc
 unfold maxLen at hb
 have HR := lh hR
 clear hR hc
 go_enter Tryz.func151, Tryz.ntmps151
 go_wp2_with fail
 refine qd _ _ _ _ _ ?_
 generalize decide (1 ≤ a ∧ a ≤ (bn : Int) - 1) = d at *
 cases d
 ·go_wp2
  exact HR.out _ bl0
 ·go_wp2
  exact HR.out _ bl0
end Go.Proofs.YtdanebboiekieaaGreatDoor
namespace Go.Proofs.YtdanebboiekieaaGreatDoor
open Go.ChangeShapes Go.WideShapes Go.ChangeAt Go.RowKit
theorem q6r : rpVal.opens Tryz.prog 64 :=
 q5e (fun x => ⟨x.1, x.2⟩) (fun _ => rfl) (q2n Tryz.underlying64 (by kernel_rfl) (q0l (qe4 Tryz.underlying4 (by kernel_rfl)) rfl (q3v (qao Tryz.underlying3 (by kernel_rfl)) rfl)))
theorem qa3 : rpVal.slice.opens Tryz.prog 69 := q4y Tryz.underlying69 (by kernel_rfl) (by decide) q6r
theorem opensInt' : rpInt.opens Tryz.prog 3 := qao Tryz.underlying3 (by kernel_rfl)
theorem q8h : rpInt.slice.opens Tryz.prog 26 := q4y Tryz.underlying26 (by kernel_rfl) (by decide) opensInt'
theorem opensStr' : rpStr.opens Tryz.prog 9 := qeo Tryz.underlying9 (by kernel_rfl)
theorem opensIns : rpIns.opens Tryz.prog 71 :=
 q5e (fun x => ⟨x.1, x.2.1, x.2.2.1, x.2.2.2.1, x.2.2.2.2.1, x.2.2.2.2.2⟩) (fun _ => rfl) (q2n Tryz.underlying71 (by kernel_rfl) (q0l opensInt' rfl (q0l opensInt' rfl (q0l q6r rfl (q0l q6r rfl (q0l opensInt' rfl (q3v qa3 rfl)))))))
theorem opensPhi : rpPhi.opens Tryz.prog 164 :=
 q5e (fun x => ⟨x.1, x.2⟩) (fun _ => rfl) (q2n Tryz.underlying164 (by kernel_rfl) (q0l opensInt' rfl (q3v qa3 rfl)))
theorem opensEnd : rpEnd.opens Tryz.prog 66 :=
 q5e (fun x => ⟨x.1, x.2.1, x.2.2⟩) (fun _ => rfl) (q2n Tryz.underlying66 (by kernel_rfl) (q0l opensInt' rfl (q0l q6r rfl (q3v q8h rfl))))
theorem qb2 : rpGlobal.opens Tryz.prog 167 :=
 q5e (fun x => ⟨x.1, x.2.1, x.2.2⟩) (fun _ => rfl) (q2n Tryz.underlying167 (by kernel_rfl) (q0l opensStr' rfl (q0l opensInt' rfl (q3v q8h rfl))))
def laidS {H : Type} : List (String × DataW H) := [("turnery/code.ways", Rows.laid_turnery_code_ways)]
theorem gWays : Tryz.prog.globalNamed "turnery/code.ways" = some 0 := by kernel_rfl
theorem tWays : (Tryz.prog.globals[0]?).map (·.type) = some 197 := by kernel_rfl
theorem qja {W : World} (h : laidMetH Tryz.prog laidS W) : Ways W := by
 rw [MakeChecks.laidMetH_plain _ _ _ (by kernel_rfl)] at h
 obtain ⟨ps, ⟨g0, t0, cs0, f0, p0, q0, hg0, ht0, hv0, hd0, _, _⟩, _, _⟩ := h
 obtain rfl := Option.some.inj (gWays.symm.trans hg0)
 obtain rfl := Option.some.inj (tWays.symm.trans ht0)
 obtain ⟨xs, m1, _, hx1, hlen, hn, hel⟩ := DataW.trod_array Tryz.underlying197 hd0
 have hx2 : Rows.laid_turnery_code_ways = DataW.agg (xs.map (·.1)) := congrArg Prod.fst hx1
 have ci : Tryz.prog.cellsOf 3 = 1 := by kernel_rfl
 unfold Rows.laid_turnery_code_ways at hx2
 injection hx2 with hx3
 have hv := fun i => World.var?_cell hg0 hv0 i
 have key : ∀ (k : Nat) (n : Int), k < 4 -> (xs.map (·.1))[k]? = some (.lit (.int .i64 n)) -> W.cell? ⟨0, k, none⟩ = some (.int .i64 n) := fun k n hk hx => by
  rw [List.getElem?_map, Option.map_eq_some_iff] at hx
  obtain ⟨x, hx, hxd⟩ := hx
  have he := hel k hk
  rw [hx, ci] at he
  obtain ⟨m, e0, e1, _⟩ := DataW.trod_int Tryz.underlying3 he
  subst e1
  injection hxd with h1
  injection h1 with _ h1
  subst h1
  rw [hv k]
  have h2 : ((cs0.toList.drop (k * 1)).take 1)[0]? = some (.int .i64 m) := by rw [e0]; rfl
  rw [List.getElem?_take, if_pos (by omega), List.getElem?_drop] at h2
  simpa using h2
 have k0 := key 0 0 (by omega) (by rw [<- hx3]; rfl)
 exact ⟨World.block_lt_of_cell? W ⟨0, 0, none⟩ k0, key 1 0 (by omega) (by rw [<- hx3]; rfl), key 2 1 (by omega) (by rw [<- hx3]; rfl), key 3 2 (by omega) (by rw [<- hx3]; rfl)⟩
end Go.Proofs.YtdanebboiekieaaGreatDoor
namespace Go.Proofs.YtdanebboiekieaaGreatDoor
open Go.ChangeShapes Go.WideShapes Go.ChangeAt Go.RowKit
theorem qh9 {H : Type} (d : DataW H) : 1 ≤ Rows.uptoBulk d := by
 cases d with
 | lit l => cases l <;> simp [Rows.uptoBulk]
 | nil => simp [Rows.uptoBulk]
 | ptr d => simp [Rows.uptoBulk]
 | slice elems spare => simp [Rows.uptoBulk]
 | agg parts => simp [Rows.uptoBulk]
 | iface t d => simp [Rows.uptoBulk]
 | map entries => simp [Rows.uptoBulk]
 | held h => simp [Rows.uptoBulk]
theorem q9e {H : Type} {d : DataW H} {l : List (DataW H)} (h : d ∈ l) : Rows.uptoBulk d ≤ Rows.uptoBulkAll l := by
 induction l with
 | nil => cases h
 | cons x r ih =>
   simp only [Rows.uptoBulkAll]
   cases List.mem_cons.1 h with
   | inl e => subst e; omega
   | inr e => have := ih e; omega
theorem qi6 {H : Type} (l : List (DataW H)) : l.length ≤ Rows.uptoBulkAll l := by
 induction l with
 | nil => simp [Rows.uptoBulkAll]
 | cons x r ih => have := qh9 x; simp only [Rows.uptoBulkAll, List.length_cons]; omega
theorem qea {H : Type} (elems spare : List (DataW H)) : Rows.uptoBulkAll elems + 1 ≤ Rows.uptoBulk (.slice elems spare) := by
 simp only [Rows.uptoBulk]
 omega
theorem qhj {H : Type} (parts : List (DataW H)) : Rows.uptoBulkAll parts + 1 = Rows.uptoBulk (.agg parts) := by
 simp only [Rows.uptoBulk]
def Rp.opensN {α : Type} (N : Nat) (r : Rp α) (P : Program) (T : TypeId) : Prop :=
 P.cellsOf T = r.size ∧ ∀ (H : Type) (enc : TypeId × Value -> H) (w : World) (fuel : Nat) (cs : List Value) (x : DataW H × List MemPlace),
  DataW.trod enc P w 0 (fun _ => true) true fuel T cs = some x -> Rows.uptoBulk x.1 ≤ N -> ∃ a, r.rep w w.heap.size a cs ∧ r.ok a
theorem Rp.opens.N {α : Type} {N : Nat} {r : Rp α} {P : Program} {T : TypeId} (h : r.opens P T) : r.opensN N P T := ⟨h.1, fun H enc w fuel cs x ht _ => h.2 H enc w fuel cs x ht⟩
def Rp.sliceN {α : Type} (N : Nat) (r : Rp α) : Rp (List α) where
 size := 1
 rep := r.slice.rep
 ok := fun xs => r.slice.ok xs ∧ xs.length ≤ N
 len := r.slice.len
 mono := r.slice.mono
 more := r.slice.more
theorem q3m {α : Type} {N : Nat} {r : Rp α} {P : Program} {T E : TypeId} (hT : P.underlying T = some (.slice E)) (hC : P.cellsOf T = 1) (hpos : 0 < r.size) (hE : r.opensN N P E) : (r.sliceN N).opensN N P T := by
 refine ⟨hC, fun H enc w fuel cs x h hx0 => ?_⟩
 rcases Go.Deep.open_slice hT h with ⟨rfl, _⟩ | ⟨a, len, cap, m, n, D, Pl, rfl, _, hlc, hcm, hm, rfl, hi⟩
 ·exact ⟨[], ⟨_, rfl, Rp.SL.nil _ _ _⟩, ⟨Nat.zero_le _, fun x hx => by cases hx⟩, Nat.zero_le _⟩
 ·have hlen : len ≤ m := by simp at hm; omega
  have hb1 := qea ((List.range len).map D) ((List.range (m - len)).map fun j => D (len + j))
  have hb2 := qi6 ((List.range len).map D)
  rw [List.length_map, List.length_range] at hb2
  dsimp only at hx0
  have hbd : ∀ i, i < len -> Rows.uptoBulk (D i) ≤ N := fun i hi' => by
   have := q9e (d := D i) (l := (List.range len).map D) (List.mem_map.2 ⟨i, List.mem_range.2 hi', rfl⟩)
   omega
  obtain ⟨l, hl, hp⟩ := qac (α := α) len (fun i x => ∃ cs', w.cells? 0 (a.add (i * P.cellsOf E)) (P.cellsOf E) = some cs' ∧ r.rep w w.heap.size x cs' ∧ r.ok x) (fun i hi' => by
   obtain ⟨cs', hc', ht'⟩ := hi i (by omega)
   obtain ⟨x, hx, hx'⟩ := hE.2 H enc w n cs' _ ht' (hbd i hi')
   exact ⟨x, cs', hc', hx, hx'⟩)
  have hok : ∀ x ∈ l, r.ok x := fun x hx => by
   obtain ⟨k, hk, e⟩ := List.mem_iff_getElem.1 hx
   obtain ⟨_, _, _, h3⟩ := hp k x (by rw [List.getElem?_eq_getElem hk, e])
   exact h3
  refine ⟨l, ⟨_, rfl, some a, cap, by rw [hl], by omega, by omega, fun hp0 => ?_⟩, ⟨by omega, hok⟩, by omega⟩
  obtain ⟨b, off, spot⟩ := a
  have hs : spot = none ∧ b < w.heap.size := by
   have hz : l[0]? = some l[0] := List.getElem?_eq_getElem (by omega)
   obtain ⟨cs', hc', hr, _⟩ := hp 0 _ hz
   obtain ⟨_, hcl, hcell⟩ := World.cells?_some hc'
   have hlen' := r.len _ _ _ _ hr
   have h0 := hcell 0 (by rw [hE.1]; exact hpos)
   rw [List.getElem?_eq_getElem (by omega)] at h0
   simp [Addr.add] at h0
   exact ⟨World.cell?_spot h0, World.block_lt_of_cell? w _ h0⟩
  obtain ⟨rfl, hb⟩ := hs
  refine ⟨b, off, rfl, hb, fun k x hk => ?_⟩
  obtain ⟨cs', hc', hr, _⟩ := hp k x hk
  refine ⟨cs', hr, fun j u hj => ?_⟩
  obtain ⟨_, hcl, hcell⟩ := World.cells?_some hc'
  have hjl : j < cs'.length := (List.getElem?_eq_some_iff.1 hj).1
  have := hcell j (by omega)
  rw [hj] at this
  rw [<- this, hE.1]
  congr 1
  unfold Addr.add
  by_cases h1 : k * r.size = 0 <;> by_cases h2 : j = 0 <;> simp [h1, h2]
def q47 {α : Type} (N : Nat) (r : Rp α) (P : Program) (fs : List Field) (off : Nat) : Prop :=
 ∀ (H : Type) (enc : TypeId × Value -> H) (w : World) (fuel : Nat) (cs : List Value),
  (∀ f ∈ fs, ∃ x, DataW.trod enc P w 0 (fun _ => true) true fuel f.type ((cs.drop f.offset).take (P.cellsOf f.type)) = some x ∧ Rows.uptoBulk x.1 ≤ N) -> ∃ a, r.rep w w.heap.size a ((cs.drop off).take r.size) ∧ r.ok a
theorem q4z {α : Type} {N : Nat} {r : Rp α} {P : Program} {f : Field} {off : Nat} (h : r.opensN N P f.type) (ho : f.offset = off) : q47 N r P [f] off := by
 intro H enc w fuel cs hf
 obtain ⟨x, hx, hb⟩ := hf f (by simp)
 have := h.2 H enc w fuel _ x hx hb
 rw [ho, h.1] at this
 exact this
theorem q1o {α β : Type} {N : Nat} {r : Rp α} {s : Rp β} {P : Program} {f : Field} {fs : List Field} {off : Nat} (h : r.opensN N P f.type) (ho : f.offset = off) (hs : q47 N s P fs (off + r.size)) :
 q47 N (r.pair s) P (f :: fs) off := by
 intro H enc w fuel cs hf
 obtain ⟨x, hx, hb⟩ := hf f (by simp)
 obtain ⟨a, ha, ha'⟩ := h.2 H enc w fuel _ x hx hb
 obtain ⟨b, hb, hb'⟩ := hs H enc w fuel cs fun g hg => hf g (by simp [hg])
 rw [ho, h.1] at ha
 refine ⟨(a, b), ⟨_, _, ?_, ha, hb⟩, ha', hb'⟩
 show (cs.drop off).take (r.size + s.size) = _
 rw [List.take_add, List.drop_drop]
theorem q49 {α : Type} {N : Nat} {r : Rp α} {P : Program} {T : TypeId} {fs : Array Field} (hT : P.underlying T = some (.struct fs)) (hC : P.cellsOf T = r.size) (h : q47 N r P fs.toList 0) : r.opensN N P T := by
 refine ⟨hC, fun H enc w fuel cs x ht hx0 => ?_⟩
 obtain ⟨xs, n, _, rfl, hlen, hxl, hg⟩ := DataW.trod_struct hT ht
 dsimp only at hx0
 rw [<- qhj] at hx0
 obtain ⟨a, ha, ha'⟩ := h H enc w n cs fun f hf => by
  obtain ⟨i, hi, e⟩ := List.mem_iff_getElem.1 hf
  have h1 : fs[i]? = some f := by rw [<- Array.getElem?_toList, List.getElem?_eq_getElem hi, e]
  have hi' : i < xs.length := by simp at hi; omega
  refine ⟨xs[i], (hg i f h1).trans (List.getElem?_eq_getElem hi'), ?_⟩
  have := q9e (d := xs[i].1) (l := xs.map (·.1)) (List.mem_map.2 ⟨xs[i], List.getElem_mem hi', rfl⟩)
  omega
 refine ⟨a, ?_, ha'⟩
 rw [List.drop_zero, List.take_of_length_le (by omega)] at ha
 exact ha
theorem q6w {α β : Type} {N : Nat} {r : Rp α} {g : β -> α} {P : Program} {T : TypeId} (f : α -> β) (hg : ∀ a, g (f a) = a) (h : r.opensN N P T) : (r.as_ g).opensN N P T := by
 refine ⟨h.1, fun H enc w fuel cs x ht hb => ?_⟩
 obtain ⟨a, ha, ha'⟩ := h.2 H enc w fuel cs x ht hb
 exact ⟨f a, by show r.rep _ _ (g (f a)) _; rw [hg]; exact ha, by show r.ok (g (f a)); rw [hg]; exact ha'⟩
def qis (N : Nat) : Rp UBlk := ((rpPhi.sliceN N).pair ((rpIns.sliceN N).pair rpEnd)).as_ fun b => (b.phis, b.list, b.end_)
def qim (N : Nat) : Rp UFun := (rpStr.pair (rpInt.pair (rpInt.pair ((qis N).sliceN N)))).as_ fun f => (f.name, f.params, f.regs, f.blocks)
def qio (N : Nat) : Rp Unt := (rpGlobal.slice.pair ((qim N).sliceN N)).as_ fun u => (u.globals, u.funcs)
theorem qfr (N : Nat) : (qis N).opensN N Tryz.prog 68 :=
 q6w (fun x => ⟨x.1, x.2.1, x.2.2⟩) (fun _ => rfl) (q49 Tryz.underlying68 (by kernel_rfl) (q1o (q3m Tryz.underlying61 (by kernel_rfl) (by decide) opensPhi.N) rfl (q1o (q3m Tryz.underlying62 (by kernel_rfl) (by decide) opensIns.N) rfl (q4z opensEnd.N rfl))))
theorem qfo (N : Nat) : (qim N).opensN N Tryz.prog 56 :=
 q6w (fun x => ⟨x.1, x.2.1, x.2.2.1, x.2.2.2⟩) (fun _ => rfl) (q49 Tryz.underlying56 (by kernel_rfl) (q1o opensStr'.N rfl (q1o opensInt'.N rfl (q1o opensInt'.N rfl (q4z (q3m Tryz.underlying54 (by kernel_rfl) (Nat.lt_of_lt_of_le Nat.zero_lt_one (Nat.le_add_right 1 _)) (qfr N)) rfl)))))
theorem qdg (N : Nat) : (qio N).opensN N Tryz.prog 25 :=
 q6w (fun x => ⟨x.1, x.2⟩) (fun _ => rfl) (q49 Tryz.underlying25 (by kernel_rfl) (q1o (q4y Tryz.underlying22 (by kernel_rfl) (by decide) qb2).N rfl (q4z (q3m Tryz.underlying23 (by kernel_rfl) (Nat.lt_of_lt_of_le Nat.zero_lt_one (Nat.le_add_right 1 _)) (qfo N)) rfl)))
theorem qf9 {N : Nat} {u : Unt} (h : (qio N).ok u) : rpUnt.ok u ∧ ∀ f ∈ u.funcs, ∀ b ∈ f.blocks, b.phis.length ≤ N ∧ b.list.length ≤ N := by
 obtain ⟨hg, ⟨hf1, hf2⟩, _⟩ := h
 refine ⟨⟨hg, hf1, fun f hf => ?_⟩, fun f hf b hb => ?_⟩
 ·obtain ⟨h1, h2, h3, ⟨h4, h5⟩, _⟩ := hf2 f hf
  exact ⟨h1, h2, h3, h4, fun b hb => ⟨(h5 b hb).1.1, (h5 b hb).2.1.1, (h5 b hb).2.2⟩⟩
 ·obtain ⟨h1, h2, h3, ⟨h4, h5⟩, _⟩ := hf2 f hf
  exact ⟨(h5 b hb).1.2, (h5 b hb).2.1.2⟩
theorem argN {α : Type} {N : Nat} {r : Rp α} {P : Program} {T : TypeId} (h : r.opensN N P T) {H : Type} {enc : TypeId × Value -> H} {w : World} {v : Value} {d : DataW H} {p : List MemPlace} (ht : DataW.Trod enc P w 0 (fun _ => true) true T v d p) (hb : Rows.uptoBulk d ≤ N) :
 ∃ a, r.rep w w.heap.size a v.cells.toList ∧ r.ok a := by
 obtain ⟨fuel, hf⟩ := ht
 exact h.2 H enc w fuel _ _ hf hb
theorem qav {H : Type} {d : DataW H} {l : List (DataW H)} (hk : Rows.uptoSmall H (d :: l) = true) : Rows.uptoBulk d ≤ 1048576 := by
 have h : Rows.uptoBulkAll (d :: l) ≤ 1048576 := of_decide_eq_true hk
 simp only [Rows.uptoBulkAll] at h
 omega
theorem qa1 {l : List UBlk} (h : ∀ b ∈ l, b.phis.length ≤ 1048576 ∧ b.list.length ≤ 1048576) (hn : l.length ≤ 40) : ∀ k, k ≤ l.length -> 0 ≤ manyW l k ∧ manyW l k ≤ (k : Int) * 2097152 ∧ ∀ j, (hj : j < k) -> (hl : j < l.length) -> (l[j].list.length : Int) ≤ manyW l k
 | 0, _ => ⟨Int.le_refl _, Int.le_refl _, fun j hj => absurd hj (Nat.not_lt_zero _)⟩
 | k + 1, hk => by
   obtain ⟨h1, h2, h3⟩ := qa1 h hn k (by omega)
   have hk' : k < l.length := hk
   obtain ⟨hb1, hb2⟩ := h _ (List.getElem_mem hk')
   have e : manyW l (k + 1) = manyW l k + ((l[k].phis.length : Int) + (l[k].list.length : Int)) := by
    rw [manyW, List.getElem?_eq_getElem hk']
    dsimp only
    unfold wrap64
    omega
   rw [e]
   refine ⟨by omega, by omega, fun j hj hl => ?_⟩
   rcases Nat.lt_or_ge j k with h4 | h4
   ·have := h3 j h4 hl
    omega
   ·have : j = k := by omega
    subst this
    omega
theorem qgs {u : Unt} (hN : ∀ f ∈ u.funcs, ∀ b ∈ f.blocks, b.phis.length ≤ 1048576 ∧ b.list.length ≤ 1048576) (h : qp u = (0, 0)) : ∀ f ∈ u.funcs, ∀ b ∈ f.blocks, b.list.length ≤ 300 := by
 intro f hf b hb
 obtain ⟨i, hi, hfi⟩ := List.getElem_of_mem hf
 have hh := (q4a h).2.2.1
 rw [fst0_zero] at hh
 have h2 := hh (headF (nameG u i) f) (by
  unfold q1y
  rw [List.mem_mapIdx]
  exact ⟨i, hi, by rw [hfi]⟩)
 have h3 : (f.blocks.length : Int) ≤ 40 ∧ manyW f.blocks f.blocks.length ≤ 300 := by
  unfold headF at h2
  split at h2
  ·simp at h2
  split at h2
  ·simp at h2
  split at h2
  ·simp at h2
  split at h2
  ·simp at h2
  ·rename_i h4
   omega
 obtain ⟨j, hj, hbj⟩ := List.getElem_of_mem hb
 have := (qa1 (hN f hf) (by omega) f.blocks.length (Nat.le_refl _)).2.2 j hj hj
 rw [hbj] at this
 omega
end Go.Proofs.YtdanebboiekieaaGreatDoor
namespace Go.Proofs.YtdanebboiekieaaGreatDoor
open Go
def q2t (l : Array Bool) : Nat := l.toList.countP (fun b => !b)
theorem q6d {l : Array Bool} {i : Nat} (h : l.getD i true = false) : q2t (l.setIfInBounds i true) + 1 = q2t l := by
 obtain ⟨l⟩ := l
 have key : ∀ (l : List Bool) (i : Nat), (l[i]?).getD true = false -> (l.set i true).countP (fun b => !b) + 1 = l.countP (fun b => !b) := by
  intro l
  induction l with
  | nil => intro i h; simp at h
  | cons x l ih =>
    intro i h
    cases i with
    | zero =>
      simp at h
      subst h
      simp [List.countP_cons]
    | succ i =>
      have := ih i (by simpa using h)
      simp only [List.set_cons_succ, List.countP_cons]
      omega
 have h' : (l[i]?).getD true = false := by
  simpa [Array.getD_eq_getD_getElem?] using h
 have := key l i h'
 simpa [q2t] using this
theorem q5n {l : Array Bool} (h : q2t l = 0) (i : Nat) : l.getD i true = true := by
 obtain ⟨l⟩ := l
 unfold q2t at h
 rw [List.countP_eq_zero] at h
 rw [Array.getD_eq_getD_getElem?]
 cases hx : (⟨l⟩ : Array Bool)[i]? with
 | none => rfl
 | some b =>
   have hm : b ∈ l := by
    have : l[i]? = some b := by simpa using hx
    exact List.mem_of_getElem? this
   have := h b hm
   simpa using this
theorem qal {P : Program} {md : Region.Mode} {ops : Array Oper} {Q : Exit -> Act -> World -> Prop} (I : Array Bool -> Act -> World -> Prop)
 (hs : ∀ l a w i, l.size = ops.size -> I l a w -> i ∈ Region.ready md ops l -> wpOp P ops Q i (fun a' w' => I (l.setIfInBounds i true) a' w') a w)
 (he : ∀ l a w, l.size = ops.size -> I l a w -> (∀ i, i < ops.size -> l.getD i false = true) -> Q .normal a w) (hw : ∀ l : Array Bool, l.size = ops.size -> Region.ready md ops l = [] -> ∀ i, i < ops.size -> l.getD i false = true) :
 ∀ (fuel : Nat) (l : Array Bool) (a : Act) (w : World), l.size = ops.size -> q2t l ≤ fuel -> I l a w -> wpAny P md ops Q fuel l a w
 | 0, l, a, w, hz, hf, h => by
   have hr : Region.ready md ops l = [] := by
    cases hr : Region.ready md ops l with
    | nil => rfl
    | cons i rs =>
      have h1 := (mem_ready.1 (by rw [hr]; exact List.mem_cons_self .. : i ∈ Region.ready md ops l)).1
      rw [q5n (by omega)] at h1
      cases h1
   exact ⟨hr, he l a w hz h (hw l hz hr)⟩
 | fuel + 1, l, a, w, hz, hf, h => by
   refine ⟨fun hr => he l a w hz h (hw l hz hr), fun i hi => ?_⟩
   have h1 := q6d (mem_ready.1 hi).1
   exact wpOp_mono (fun a' w' h' => qal I hs he hw fuel _ a' w' (by simpa using hz) (by omega) h') (hs l a w i hz h hi)
theorem q89 {md : Region.Mode} {ops : Array Oper} (hd : ∀ (i : Nat) (o : Oper), ops[i]? = some o -> ∀ e ∈ o.after, Region.binds md e = true -> e.on < i) (l : Array Bool) (hz : l.size = ops.size) (hr : Region.ready md ops l = []) : ∀ i, i < ops.size -> l.getD i false = true := by
 intro i
 induction i using Nat.strongRecOn with
 | _ i ih =>
   intro hi
   cases hb : l.getD i false with
   | true => rfl
   | false =>
     exfalso
     have hl : l.getD i true = false := by
      have hlt : i < l.size := by omega
      simp only [Array.getD_eq_getD_getElem?, Array.getElem?_eq_getElem hlt, Option.getD_some] at hb ⊢
      exact hb
     have : i ∈ Region.ready md ops l := mem_ready.2 ⟨hl, ops[i], Array.getElem?_eq_getElem hi, fun e hm hb => ih e.on (hd i _ (Array.getElem?_eq_getElem hi) e hm hb) (by have := hd i _ (Array.getElem?_eq_getElem hi) e hm hb; omega)⟩
     rw [hr] at this
     cases this
theorem q8z {P : Program} {ops : Array Oper} {Q : Exit -> Act -> World -> Prop} {id : Nat} {a : Act} {w : World} (hm : P.follows .mixedOrders = true) (I : Array Bool -> Act -> World -> Prop)
 (h0 : I (Array.replicate ops.size false) a { w with drawn := w.drawn + 1 }) (hd : ∀ (i : Nat) (o : Oper), ops[i]? = some o -> ∀ e ∈ o.after, Region.binds .any e = true -> e.on < i)
 (hs : ∀ l a w i, l.size = ops.size -> I l a w -> i ∈ Region.ready .any ops l -> wpOp P ops Q i (fun a' w' => I (l.setIfInBounds i true) a' w') a w)
 (he : ∀ l a w, l.size = ops.size -> I l a w -> (∀ i, i < ops.size -> l.getD i false = true) -> Q .normal a w) : (Code.region id ops true).wp P Q a w :=
 wp_region_any hm (qal I hs he (fun l hz hr => q89 hd l hz hr) _ _ _ _ (by simp) (by
  unfold q2t
  exact Nat.le_trans List.countP_le_length (by simp)) h0)
def qc8 (ops : Array Oper) : Bool := (List.range ops.size).all fun i => match ops[i]? with | some o => o.after.all fun e => !Region.binds .any e || decide (e.on < i) | none => true
theorem q8s {ops : Array Oper} (h : qc8 ops = true) : ∀ (i : Nat) (o : Oper), ops[i]? = some o -> ∀ e ∈ o.after, Region.binds .any e = true -> e.on < i := fun i o ho e he hb => by
 unfold qc8 at h
 rw [List.all_eq_true] at h
 have h1 := h i (List.mem_range.2 (Array.getElem?_eq_some_iff.1 ho).1)
 rw [ho] at h1
 simp only [Array.all_eq_true_iff_forall_mem] at h1
 have h2 := h1 e he
 rw [hb] at h2
 simpa using h2
theorem qah {l : Array Bool} {i : Nat} (h : l.getD i true = false) : l.getD i false = false := by
 rw [Array.getD_eq_getD_getElem?] at h ⊢
 cases hx : l[i]? with
 | none => rfl
 | some b =>
   rw [hx] at h
   exact h
def over (a : Act) (L : List (Nat × Value)) : Act := L.foldl (fun a p => a.put (some p.1) p.2) a
theorem q9a : ∀ (L : List (Nat × Value)) (a : Act) (k : Nat), (∀ p ∈ L, p.1 < a.tmps.size) -> (over a L).tmps[k]? = match L.reverse.find? (fun p => p.1 == k) with | some p => some p.2 | none => a.tmps[k]?
 | [], a, k, _ => rfl
 | p :: L, a, k, hL => by
   have ih := q9a L (a.put (some p.1) p.2) k (fun q hq => by have := hL q (by simp [hq]); simpa [Act.put] using this)
   show (over (a.put (some p.1) p.2) L).tmps[k]? = _
   rw [ih, List.reverse_cons, List.find?_append]
   cases hf : L.reverse.find? (fun p => p.1 == k) with
   | some q => rfl
   | none =>
     simp only [Option.none_or, List.find?_cons, List.find?_nil]
     show (a.tmps.setIfInBounds p.1 p.2)[k]? = _
     by_cases hk : p.1 = k
     ·subst hk
      have hlt : p.1 < a.tmps.size := hL p (by simp)
      simp [hlt]
     ·rw [Array.getElem?_setIfInBounds_ne hk, show (p.1 == k) = false from by simpa using hk]
theorem qh2 {a a0 : Act} (L : List (Nat × Value)) (hL : ∀ p ∈ L, p.1 < a0.tmps.size) (hd : a.defers = a0.defers) (hs : ∀ p ∈ L, a.tmps[p.1]? = some p.2) (ho : ∀ k, (∀ p ∈ L, p.1 ≠ k) -> a.tmps[k]? = a0.tmps[k]?) : a = over a0 L := by
 have hdf : ∀ (L : List (Nat × Value)) (a : Act), (over a L).defers = a.defers := by
  intro L
  induction L with
  | nil => intro a; rfl
  | cons q L ih2 => intro a; show (over (a.put (some q.1) q.2) L).defers = _; rw [ih2]; rfl
 have ht : a.tmps = (over a0 L).tmps := by
  apply Array.ext_getElem?
  intro k
  rw [q9a L a0 k hL]
  cases hf : L.reverse.find? (fun p => p.1 == k) with
  | none =>
    refine ho k fun p hp e => ?_
    have := List.find?_eq_none.1 hf p (by simpa using hp)
    simp [e] at this
  | some p =>
    have h1 := List.mem_of_find?_eq_some hf
    have h2 := List.find?_some hf
    have h3 : p.1 = k := by simpa using h2
    rw [<- h3]
    exact hs p (by simpa using h1)
 cases a
 cases h : over a0 L
 rw [h] at ht
 have := hdf L a0
 rw [h] at this
 simp only at ht this hd
 rw [ht, hd, <- this]
end Go.Proofs.YtdanebboiekieaaGreatDoor
namespace Go.Proofs.YtdanebboiekieaaGreatDoor
open Go.RowKit
structure Grew (X : Nat -> Prop) (w w' : World) : Prop where
 os : w'.os = w.os
 tape : w'.tape = w.tape
 output : w'.output = w.output
 size : w.heap.size ≤ w'.heap.size
 block : ∀ k, k < w.heap.size -> ¬ X k -> w'.heap[k]? = w.heap[k]?
theorem Grew.refl (X : Nat -> Prop) (w : World) : Grew X w w := ⟨rfl, rfl, rfl, Nat.le_refl _, fun _ _ _ => rfl⟩
theorem Grew.trans {X Y : Nat -> Prop} {a b c : World} (h : Grew X a b) (k : Grew Y b c) (hs : ∀ j, j < a.heap.size -> Y j -> X j) : Grew X a c :=
 ⟨k.os.trans h.os, k.tape.trans h.tape, k.output.trans h.output, Nat.le_trans h.size k.size, fun j hj hX => (k.block j (Nat.lt_of_lt_of_le hj h.size) (fun hy => hX (hs j hj hy))).trans (h.block j hj hX)⟩
theorem Grew.more {X Y : Nat -> Prop} {a b : World} (h : Grew X a b) (hs : ∀ j, j < a.heap.size -> X j -> Y j) : Grew Y a b := (Grew.refl Y a).trans h hs
theorem Grew.of_grown {w w' : World} {row : Option Nat} (h : w.grownBy w' row) : Grew (fun k => row = some k) w w' := ⟨h.os, h.tape, h.output, h.size, fun k hk hx => h.block k hk (fun e => hx e.symm)⟩
theorem Grew.of_below {X : Nat -> Prop} {B : Nat} {w w' : World} (h : Below B w w') (hB : ∀ k, B ≤ k -> k < w.heap.size -> X k) : Grew X w w' := ⟨h.os, h.tape, h.output, h.size, fun k hk hX => h.block k (by
 rcases Nat.lt_or_ge k B with hlt | hge
 ·exact hlt
 ·exact absurd (hB k hge hk) hX)⟩
theorem Grew.below {X : Nat -> Prop} {B : Nat} {w w' : World} (h : Grew X w w') (hX : ∀ k, k < B -> ¬ X k) (hB : B ≤ w.heap.size) : Below B w w' := ⟨h.os, h.tape, h.output, h.size, fun k hk => h.block k (by omega) (hX k hk)⟩
theorem Grew.on {X : Nat -> Prop} {a w w' : World} (h : Grew X a w) (hb : Below w.heap.size w w') : Grew X a w' :=
 h.trans (Grew.of_below (X := fun _ => False) hb (fun k h1 h2 => by omega)) (fun _ _ h => h.elim)
theorem Grew.alloc {X : Nat -> Prop} {a w : World} (h : Grew X a w) (o : Obj) : Grew X a (w.alloc o) := h.on ((Below.refl _ _).alloc (Nat.le_refl _) o)
theorem Grew.setCell {X : Nat -> Prop} {a w : World} (h : Grew X a w) (p : Addr) (hp : X p.block ∨ a.heap.size ≤ p.block) (u : Value) : Grew X a (w.setCell p u) :=
 h.trans (Grew.of_grown (q07 w p u)) (fun j hj e => by
  have : p.block = j := Option.some.inj e
  subst this
  rcases hp with hp | hp
  ·exact hp
  ·omega)
end Go.Proofs.YtdanebboiekieaaGreatDoor
namespace Go.Proofs.YtdanebboiekieaaGreatDoor
open Go.RowKit
end Go.Proofs.YtdanebboiekieaaGreatDoor
namespace Go.Proofs.YtdanebboiekieaaGreatDoor
open Go.RowKit
end Go.Proofs.YtdanebboiekieaaGreatDoor
namespace Go.Proofs.YtdanebboiekieaaGreatDoor
open Go.RowKit
end Go.Proofs.YtdanebboiekieaaGreatDoor
namespace Go.Proofs.YtdanebboiekieaaGreatDoor
open Go.RowKit
end Go.Proofs.YtdanebboiekieaaGreatDoor
namespace Go.Proofs.YtdanebboiekieaaGreatDoor
open Go.RowKit
end Go.Proofs.YtdanebboiekieaaGreatDoor
namespace Go.Proofs.YtdanebboiekieaaGreatDoor
open Go.RowKit
def vals (a : Act) (k : Nat) : Value := a.tmps.getD k undef
def setVl (val : Nat -> Value) (k : Nat) (v : Value) (j : Nat) : Value := if j = k then v else val j
def don (d : Nat -> Bool) (i k : Nat) : Bool := if k = i then true else d k
theorem q6q {a : Act} {k : Nat} {v : Value} (h : k < a.tmps.size) : vals (a.put (some k) v) = setVl (vals a) k v := by
 funext j
 unfold vals setVl
 show (a.tmps.setIfInBounds k v).getD j undef = _
 show _ = if j = k then v else a.tmps.getD j undef
 rw [Array.getD_eq_getD_getElem?, Array.getElem?_setIfInBounds, Array.getD_eq_getD_getElem?]
 by_cases e : k = j
 ·subst e
  simp [h]
 ·rw [if_neg e, if_neg (fun h => e h.symm)]
structure Ag (slots : List Nat) (a0 a : Act) : Prop where
 sz : a.tmps.size = a0.tmps.size
 df : a.defers = a0.defers
 ot : ∀ k, k ∉ slots -> a.tmps[k]? = a0.tmps[k]?
 hs : ∀ k ∈ slots, k < a0.tmps.size
theorem Ag.put {slots : List Nat} {a0 a : Act} (h : Ag slots a0 a) {k : Nat} (hk : k ∈ slots) (v : Value) : Ag slots a0 (a.put (some k) v) := by
 refine ⟨by simpa [Act.put] using h.sz, h.df, fun j hj => ?_, h.hs⟩
 show (a.tmps.setIfInBounds k v)[j]? = _
 rw [Array.getElem?_setIfInBounds_ne (by rintro rfl; exact hj hk)]
 exact h.ot j hj
theorem Ag.old {slots : List Nat} {a0 a : Act} (h : Ag slots a0 a) {k : Nat} (hk : k ∉ slots) : vals a k = vals a0 k := by
 unfold vals
 rw [Array.getD_eq_getD_getElem?, Array.getD_eq_getD_getElem?, h.ot k hk]
theorem Ag.over {slots : List Nat} {a0 a : Act} (h : Ag slots a0 a) : a = over a0 (slots.map fun k => (k, vals a k)) := by
 refine qh2 _ (fun p hp => ?_) h.df (fun p hp => ?_) (fun k hk => h.ot k (fun hm => hk (k, vals a k) (List.mem_map.2 ⟨k, hm, rfl⟩) rfl))
 ·obtain ⟨k, hk, rfl⟩ := List.mem_map.1 hp
  exact h.hs k hk
 ·obtain ⟨k, hk, rfl⟩ := List.mem_map.1 hp
  have hlt : k < a.tmps.size := by rw [h.sz]; exact h.hs k hk
  show a.tmps[k]? = some (vals a k)
  unfold vals
  rw [Array.getD_eq_getD_getElem?, Array.getElem?_eq_getElem hlt]
  rfl
theorem qay {l : Array Bool} {i : Nat} (h : i < l.size) : (fun k => (l.setIfInBounds i true).getD k false) = don (fun k => l.getD k false) i := by
 funext k
 unfold don
 simp only [Array.getD_eq_getD_getElem?, Array.getElem?_setIfInBounds]
 by_cases e : k = i
 ·subst e
  simp [h]
 ·rw [if_neg (fun h => e h.symm), if_neg e]
def qfd (ops : Array Oper) : Bool := ops.all fun o => o.guard.isNone
theorem qgn {ops : Array Oper} (h : qfd ops = true) : ∀ (i : Nat) (o : Oper), ops[i]? = some o -> o.guard = none := fun i o ho => by
 unfold qfd at h
 rw [Array.all_eq_true_iff_forall_mem] at h
 have := h o (Array.mem_of_getElem? ho)
 cases hg : o.guard with
 | none => rfl
 | some g => rw [hg] at this; cases this
def Aft (slots : List Nat) (a0 : Act) (I : (Nat -> Bool) -> (Nat -> Value) -> World -> Prop) (d : Nat -> Bool) (i : Nat) (a' : Act) (w' : World) : Prop := Ag slots a0 a' ∧ I (don d i) (vals a') w'
theorem qix {P : Program} {ops : Array Oper} {Q : Exit -> Act -> World -> Prop} {id : Nat} {a0 : Act} {w : World} (hm : P.follows .mixedOrders = true) (slots : List Nat) (I : (Nat -> Bool) -> (Nat -> Value) -> World -> Prop)
 (hd : ∀ (i : Nat) (o : Oper), ops[i]? = some o -> ∀ e ∈ o.after, Region.binds .any e = true -> e.on < i) (hsl : ∀ k ∈ slots, k < a0.tmps.size) (hgd : ∀ (i : Nat) (o : Oper), ops[i]? = some o -> o.guard = none)
 (h0 : I (fun _ => false) (vals a0) w.drew)
 (hs : ∀ (d : Nat -> Bool) a w' i o, ops[i]? = some o -> d i = false -> (∀ e ∈ o.after, Region.binds .any e = true -> d e.on = true) -> Ag slots a0 a -> I d (vals a) w' -> o.wp P a w' (Aft slots a0 I d i) Q)
 (he : ∀ (d : Nat -> Bool) vs w', (∀ i, i < ops.size -> d i = true) -> (∀ k, k ∉ slots -> vs k = vals a0 k) -> I d vs w' -> Q .normal (over a0 (slots.map fun k => (k, vs k))) w') : (Code.region id ops true).wp P Q a0 w := by
 refine q8z hm (fun l a w' => Ag slots a0 a ∧ I (fun k => l.getD k false) (vals a) w') ⟨⟨rfl, rfl, fun _ _ => rfl, hsl⟩, ?_⟩ hd ?_ ?_
 ·have hf : (fun k => (Array.replicate ops.size false).getD k false) = (fun _ => false) := by
   funext k
   rw [Array.getD_eq_getD_getElem?, Array.getElem?_replicate]
   split <;> rfl
  rw [hf]
  exact h0
 ·rintro l a w' i hz ⟨hag, H⟩ hi
  obtain ⟨hun, o, ho, hall⟩ := mem_ready.1 hi
  have hlt : i < l.size := by
   rw [hz]
   exact (Array.getElem?_eq_some_iff.1 ho).1
  have := hs (fun k => l.getD k false) a w' i o ho (qah hun) (fun e he hb => hall e he hb) hag H
  unfold wpOp
  simp only [ho]
  rw [if_pos (by simp [Region.wanted, hgd i o ho])]
  refine .inl (Oper.wp_mono (fun a' w'' h => ?_) this)
  rw [qay hlt]
  exact h
 ·rintro l a w' hz ⟨hag, H⟩ hall
  rw [hag.over]
  exact he _ _ w' hall (fun k hk => hag.old hk) H
theorem q0d {P : Program} {slots : List Nat} {a0 a : Act} {I : (Nat -> Bool) -> (Nat -> Value) -> World -> Prop} {d : Nat -> Bool} {i k : Nat} {Q : Exit -> Act -> World -> Prop} {o : Oper} {w w' : World} {v : Value} (hag : Ag slots a0 a) (hdst : o.dst = some k) (hk : k ∈ slots)
 (hr : (execOp a.eval o).run P w = .ok (.value v) w') (h : I (don d i) (setVl (vals a) k v) w') : o.wp P a w (Aft slots a0 I d i) Q := by
 unfold Oper.wp
 rw [hr]
 show Aft slots a0 I d i (a.put o.dst v) w'
 rw [hdst]
 refine ⟨hag.put hk v, ?_⟩
 rw [q6q (by rw [hag.sz]; exact hag.hs k hk)]
 exact h
theorem qck {P : Program} {slots : List Nat} {a0 a : Act} {I : (Nat -> Bool) -> (Nat -> Value) -> World -> Prop} {d : Nat -> Bool} {i : Nat} {Q : Exit -> Act -> World -> Prop} {o : Oper} {w w' : World} (hag : Ag slots a0 a) (hdst : o.dst = none)
 (hr : (execOp a.eval o).run P w = .ok .skip w') (h : I (don d i) (vals a) w') : o.wp P a w (Aft slots a0 I d i) Q := by
 unfold Oper.wp
 rw [hr]
 show Aft slots a0 I d i (a.put o.dst undef) w'
 rw [hdst]
 exact ⟨hag, h⟩
theorem q7p {F : Fence} {n : Nat} {P : Program} {md : Region.Mode} {ops : Array Oper} {Q : Exit -> Act -> World -> Prop} (I : Array Bool -> Act -> World -> Prop)
 (hs : ∀ l a w i, l.size = ops.size -> I l a w -> i ∈ Region.ready md ops l -> wpOpIn F n P ops Q i (fun a' w' => I (l.setIfInBounds i true) a' w') a w)
 (he : ∀ l a w, l.size = ops.size -> I l a w -> (∀ i, i < ops.size -> l.getD i false = true) -> Q .normal a w) (hw : ∀ l : Array Bool, l.size = ops.size -> Region.ready md ops l = [] -> ∀ i, i < ops.size -> l.getD i false = true) :
 ∀ (fuel : Nat) (l : Array Bool) (a : Act) (w : World), l.size = ops.size -> q2t l ≤ fuel -> I l a w -> wpAnyIn F n P md ops Q fuel l a w
 | 0, l, a, w, hz, hf, h => by
   have hr : Region.ready md ops l = [] := by
    cases hr : Region.ready md ops l with
    | nil => rfl
    | cons i rs =>
      have h1 := (mem_ready.1 (by rw [hr]; exact List.mem_cons_self .. : i ∈ Region.ready md ops l)).1
      rw [q5n (by omega)] at h1
      cases h1
   exact ⟨hr, he l a w hz h (hw l hz hr)⟩
 | fuel + 1, l, a, w, hz, hf, h => by
   refine ⟨fun hr => he l a w hz h (hw l hz hr), fun i hi => ?_⟩
   have h1 := q6d (mem_ready.1 hi).1
   exact wpOpIn_mono (fun a' w' h' => q7p I hs he hw fuel _ a' w' (by simpa using hz) (by omega) h') (hs l a w i hz h hi)
theorem q6h {ops : Array Oper} {a : Act} {j k : Nat} {o : Oper} (ho : ops[j]? = some o) (hd : o.dst = some k) (hk : k < a.tmps.size) : yielded ops a.tmps j = match vals a k with | .bool b => some b | _ => none := by
 unfold yielded vals
 rw [ho, Array.getD_eq_getD_getElem?]
 simp only [Option.bind_some, hd, Array.getElem?_eq_getElem hk, Option.getD_some]
 cases a.tmps[k] <;> rfl
theorem q00 {ops : Array Oper} {o : Oper} {a : Act} (h : o.guard = none) : Region.wanted o (yielded ops a.tmps) = true := by simp [Region.wanted, h]
theorem qe7 {ops : Array Oper} {o og : Oper} {a : Act} {j k : Nat} {b : Bool} (h : o.guard = some (j, b)) (ho : ops[j]? = some og) (hd : og.dst = some k) (hk : k < a.tmps.size) {c : Bool} (hv : vals a k = .bool c) : Region.wanted o (yielded ops a.tmps) = (c == b) := by
 unfold Region.wanted
 rw [h]
 simp only [q6h ho hd hk, hv]
 cases c <;> cases b <;> rfl
def StepIn (F : Fence) (n : Nat) (P : Program) (ops : Array Oper) (Q : Exit -> Act -> World -> Prop) (slots : List Nat) (a0 : Act) (I : (Nat -> Bool) -> (Nat -> Value) -> World -> Prop) (d : Nat -> Bool) (i : Nat) (o : Oper) (a : Act) (w : World) : Prop :=
 if Region.wanted o (yielded ops a.tmps) = true then o.wpIn F n P a w (Aft slots a0 I d i) Q else (∀ f, o.about P w a.eval = some f -> F.fn f) ∧ Aft slots a0 I d i (a.put o.dst undef) w
theorem qek {F : Fence} {n : Nat} {P : Program} {ops : Array Oper} {Q : Exit -> Act -> World -> Prop} {id : Nat} {a0 : Act} {w : World} (hm : P.follows .mixedOrders = true) (slots : List Nat) (I : (Nat -> Bool) -> (Nat -> Value) -> World -> Prop)
 (hd : ∀ (i : Nat) (o : Oper), ops[i]? = some o -> ∀ e ∈ o.after, Region.binds .any e = true -> e.on < i) (hsl : ∀ k ∈ slots, k < a0.tmps.size)
 (h0 : I (fun _ => false) (vals a0) w.drew)
 (hs : ∀ (d : Nat -> Bool) a w' i o, ops[i]? = some o -> d i = false -> (∀ e ∈ o.after, Region.binds .any e = true -> d e.on = true) -> Ag slots a0 a -> I d (vals a) w' -> StepIn F n P ops Q slots a0 I d i o a w')
 (he : ∀ (d : Nat -> Bool) vs w', (∀ i, i < ops.size -> d i = true) -> (∀ k, k ∉ slots -> vs k = vals a0 k) -> I d vs w' -> Q .normal (over a0 (slots.map fun k => (k, vs k))) w') : (Code.region id ops true).wpIn F n P Q a0 w := by
 refine wpIn_region_any hm (q7p (fun l a w' => Ag slots a0 a ∧ I (fun k => l.getD k false) (vals a) w') ?_ ?_ (fun l hz hr => q89 hd l hz hr) _ _ _ _ (by simp) (by
  unfold q2t
  exact Nat.le_trans List.countP_le_length (by simp)) ⟨⟨rfl, rfl, fun _ _ => rfl, hsl⟩, ?_⟩)
 ·rintro l a w' i hz ⟨hag, H⟩ hi
  obtain ⟨hun, o, ho, hall⟩ := mem_ready.1 hi
  have hlt : i < l.size := by
   rw [hz]
   exact (Array.getElem?_eq_some_iff.1 ho).1
  have := hs (fun k => l.getD k false) a w' i o ho (qah hun) (fun e he hb => hall e he hb) hag H
  unfold wpOpIn
  simp only [ho]
  unfold StepIn at this
  by_cases hwn : Region.wanted o (yielded ops a.tmps) = true
  ·rw [if_pos hwn] at this ⊢
   refine Oper.wpIn_mono (fun a' w'' h => ?_) this
   rw [qay hlt]
   exact h
  ·rw [if_neg hwn] at this ⊢
   refine ⟨this.1, ?_⟩
   rw [qay hlt]
   exact this.2
 ·rintro l a w' hz ⟨hag, H⟩ hall
  rw [hag.over]
  exact he _ _ w' hall (fun k hk => hag.old hk) H
 ·have hf : (fun k => (Array.replicate ops.size false).getD k false) = (fun _ => false) := by
   funext k
   rw [Array.getD_eq_getD_getElem?, Array.getElem?_replicate]
   split <;> rfl
  rw [hf]
  exact h0
theorem qg {F : Fence} {n : Nat} {P : Program} {ops : Array Oper} {slots : List Nat} {a0 a : Act} {I : (Nat -> Bool) -> (Nat -> Value) -> World -> Prop} {d : Nat -> Bool} {i k : Nat} {Q : Exit -> Act -> World -> Prop} {o : Oper} {w w' : World} {v : Value} (hag : Ag slots a0 a) (hdst : o.dst = some k) (hk : k ∈ slots)
 (hwn : Region.wanted o (yielded ops a.tmps) = true) (hab : ∀ f, o.about P w a.eval = some f -> F.fn f) (hc : ∀ c, o.op ≠ .defer c)
 (hr : (execOp a.eval o).run P w = .ok (.value v) w') (h : I (don d i) (setVl (vals a) k v) w') : StepIn F n P ops Q slots a0 I d i o a w := by
 unfold StepIn
 rw [if_pos hwn]
 unfold Oper.wpIn
 refine ⟨hab, ?_⟩
 rw [Oper.semAt_plain F _ _ hc, hr]
 show Aft slots a0 I d i (a.put o.dst v) w'
 rw [hdst]
 refine ⟨hag.put hk v, ?_⟩
 rw [q6q (by rw [hag.sz]; exact hag.hs k hk)]
 exact h
theorem ql {F : Fence} {n : Nat} {P : Program} {ops : Array Oper} {slots : List Nat} {a0 a : Act} {I : (Nat -> Bool) -> (Nat -> Value) -> World -> Prop} {d : Nat -> Bool} {i k : Nat} {Q : Exit -> Act -> World -> Prop} {o : Oper} {w : World} (hag : Ag slots a0 a) (hdst : o.dst = some k) (hk : k ∈ slots)
 (hwn : Region.wanted o (yielded ops a.tmps) = false) (hab : ∀ f, o.about P w a.eval = some f -> F.fn f)
 (h : I (don d i) (setVl (vals a) k undef) w) : StepIn F n P ops Q slots a0 I d i o a w := by
 unfold StepIn
 rw [if_neg (by rw [hwn]; decide)]
 refine ⟨hab, ?_⟩
 rw [hdst]
 refine ⟨hag.put hk undef, ?_⟩
 rw [q6q (by rw [hag.sz]; exact hag.hs k hk)]
 exact h
theorem q4h {F : Fence} {n : Nat} {P : Program} {ops : Array Oper} {slots : List Nat} {a0 a : Act} {I : (Nat -> Bool) -> (Nat -> Value) -> World -> Prop} {d : Nat -> Bool} {i k : Nat} {Q : Exit -> Act -> World -> Prop} {o : Oper} {w : World} {l : Nat} {fn : FuncId} {tmps : Array Value} {asg body : Code} {R : Ending -> World -> Prop} (hag : Ag slots a0 a) (hdst : o.dst = some k) (hk : k ∈ slots)
 (hwn : Region.wanted o (yielded ops a.tmps) = true) (hab : ∀ f, o.about P w a.eval = some f -> F.fn f) (hc : ∀ c, o.op ≠ .defer c) (hdp : F.depth.isSome = true -> 1 ≤ n)
 (hr : (execOp a.eval o).run P w = .ok (.round l fn tmps asg body) w) (hR : RoundIn F (n - 1) P l fn tmps asg body w R) (h : ∀ e w', R e w' -> ∃ v, e = .returned v ∧ I (don d i) (setVl (vals a) k v) w') : StepIn F n P ops Q slots a0 I d i o a w := by
 unfold StepIn
 rw [if_pos hwn]
 unfold Oper.wpIn
 refine ⟨hab, ?_⟩
 rw [Oper.semAt_plain F _ _ hc, hr]
 refine ⟨hdp, hR.mono fun e w' he => ?_⟩
 obtain ⟨v, rfl, hI⟩ := h e w' he
 show Aft slots a0 I d i (a.put o.dst v) w'
 rw [hdst]
 refine ⟨hag.put hk v, ?_⟩
 rw [q6q (by rw [hag.sz]; exact hag.hs k hk)]
 exact hI
end Go.Proofs.YtdanebboiekieaaGreatDoor
