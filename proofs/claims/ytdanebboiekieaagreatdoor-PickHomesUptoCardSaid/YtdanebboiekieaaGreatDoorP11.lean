/- The walks, part 11. -/
import Derived.Test.YtdanebboiekieaaGreatDoorP10
set_option linter.unusedSimpArgs false
set_option linter.unusedVariables false
set_option maxRecDepth 100000
set_option maxHeartbeats 16000000
namespace Go.Proofs.YtdanebboiekieaaGreatDoor
open Go.RowKit Go.Shelf
attribute [local go_sem] Oper.semAt_some
theorem qig {l : List UIns} (ys : List (Fin l.length)) (S : List Bool) : (ys.foldl (fun S (j : Fin l.length) => insS S l[j.1]) S).length = S.length := by
 induction ys generalizing S with
 | nil => rfl
 | cons v ys ih => rw [List.foldl_cons, ih, qfa]
theorem qih {l : List UIns} (ys : List (Fin l.length)) (S : List Bool) : ys.foldl (fun S (j : Fin l.length) => insS S l[j.1]) S = (ys.map fun j : Fin l.length => l[j.1]).foldl insS S := by rw [List.foldl_map]
theorem qb6 (u : Unt) (S : List Bool) (cp n g b0 : Nat) (x : UIns) (va : Value) (w : World) (hn : S.length = n) (hS : SetAt g S w) (hx : InsOk u n x) (ha : rpVal.SL w b0 x.args va) (hb0 : b0 ≤ g) (R : Ending -> World -> Prop)
 (hR : ∀ w', SetAt g (insS S x) w' -> w.grownBy w' (some g) -> R (.returned (.tuple #[])) w') :
 Calls Tryz.prog 119 #[.slice (some ⟨g, 0, none⟩) n cp, .agg #[.int .i64 x.op, .int .i64 x.dst, .bool x.a.reg, .int .i64 x.a.n, .bool x.b.reg, .int .i64 x.b.n, .int .i64 x.fn, va]] w R := by
 subst hn;exact qd9 u S cp g b0 x va w hS hx ha hb0 R hR
theorem q3q {P : Program} {Q : Exit -> Act -> World -> Prop} {T : Array Value} {ds : List Deferred} {w : World} {c : Code} (Lit : (Nat -> Value) -> Array Value) (I : Nat -> (Nat -> Value) -> List Deferred -> World -> Prop) (n₀ : Nat) (hT : T = Lit (fun i => T.getD i undef)) (h₀ : I n₀ (fun i => T.getD i undef) ds w)
 (round : ∀ n u ds w, I n u ds w -> ∀ K : Act -> World -> Prop, Hid (∀ n' T' ds' w', n' < n -> T' = Lit (fun i => T'.getD i undef) -> I n' (fun i => T'.getD i undef) ds' w' -> K { tmps := T', defers := ds' } w') -> c.wp P (Exit.then K Q) { tmps := Lit u, defers := ds } w) : (Code.loop c).wp P Q { tmps := T, defers := ds } w := by
 refine wp_loop_ghost_k (fun n a w => ∃ u ds, I n u ds w ∧ a = { tmps := Lit u, defers := ds }) n₀ ⟨_, ds, h₀, by rw [<- hT]⟩ ?_;rintro n a w ⟨u, ds, hI, rfl⟩ J K hJ hK;exact round n u ds w hI K (lh fun n' T' ds' w' hlt hT' hI' => hK _ _ (Handed.intro n' hlt (hJ _ _ _ ⟨_, ds', hI', by rw [<- hT']⟩)))
def postN (P : Program) (fn : Func) (R : Ending -> World -> Prop) : Exit -> Act -> World -> Prop
 | .normal, a, w | .ret, a, w => LeavesInM Fence.wide 7 P fn a.tmps R a.defers .returning w
 | _, _, _ => False
theorem qax {P : Program} {fn : Func} {R : Ending -> World -> Prop} : ∀ e a w, postN P fn R e a w -> bodyPostM Fence.wide 7 P fn R e a w
 | .normal, _, _, h => h
 | .ret, _, _, h => h
 | .exit _, _, _, h => h.elim
 | .goto _, _, _, h => h.elim
 | .panic _, _, _, h => h.elim
 | .outgrown, _, _, h => h.elim
theorem q7w (f : UFun) (n : Nat) (vb va vi : Value) (AH : List (List Int)) (V : List (List Bool)) (b : Nat) (w : World) (hn : f.regs = (n : Int)) (hn1 : n ≤ 100) (hnp : ∀ b ∈ f.blocks, b.phis = [])
 (hto : ∀ b ∈ f.blocks, ∀ t ∈ b.end_.to, 0 ≤ t ∧ t < (f.blocks.length : Int)) (hb : b < f.blocks.length)
 (h : rpBlk.SL w w.heap.size f.blocks vb) (ha : rpInt.slice.SL w w.heap.size AH va) (hal : AH.length = f.blocks.length) (hi : rpBool.slice.SL w w.heap.size V vi) (hil : V.length = f.blocks.length) (hrow : ∀ t, t < V.length -> (rowV V t).length = n) (R : Ending -> World -> Prop)
 (hR : ∀ w' g S, Below w.heap.size w w' -> w.heap.size ≤ g -> SetAt g S w' -> S.length = n -> (∀ r, r < n -> bAt S r = behB (fun t => bAt (rowV V t) r) f.blocks[b]) -> R (.returned (.slice (some ⟨g, 0, none⟩) n n)) w') :
 Calls Tryz.prog 116 #[.agg #[.string f.name, .int .i64 f.params, .int .i64 (n : Int), vb], va, vi, .int .i64 (b : Int)] w R := by
 have h1 := q96 f n vb va vi AH V b w hn hn1 hnp hto hb h ha hal hi hil hrow R hR;rw [hn] at h1;exact h1
set_option pp.deepTerms true in
set_option pp.maxSteps 100000 in
theorem q7v (u : Unt) (f : UFun) (n : Nat) (vb : Value) (w : World) (hn : f.regs = (n : Int)) (hn1 : n ≤ 100) (h40 : f.blocks.length ≤ 40) (h1b : 1 ≤ f.blocks.length) (hnp : ∀ b ∈ f.blocks, b.phis = [])
 (hto : ∀ b ∈ f.blocks, b.end_.to.length ≤ 2 ∧ ∀ t ∈ b.end_.to, 0 ≤ t ∧ t < (f.blocks.length : Int)) (hins : ∀ b ∈ f.blocks, ∀ x ∈ b.list, InsOk u n x) (hon : ∀ b ∈ f.blocks, ValOk n b.end_.on)
 (h : rpBlk.SL w w.heap.size f.blocks vb) (R : Ending -> World -> Prop)
 (hR : ∀ w' V O vi vo, Below w.heap.size w w' -> rpBool.slice.SLF w' w.heap.size w'.heap.size V vi -> rpBool.slice.SLF w' w.heap.size w'.heap.size O vo -> V.length = f.blocks.length -> O.length = f.blocks.length -> (∀ S ∈ V, S.length = n) -> (∀ S ∈ O, S.length = n) ->
  (∀ r, r < n -> ∀ i, bAt (rowV V i) r = true ↔ Lv f r i 0) -> (∀ b (hb : b < f.blocks.length), ∀ r, r < n -> bAt (rowV O b) r = behB (colV V r) f.blocks[b]) -> R (.returned (.tuple #[vi, vo])) w') :
 Calls Tryz.prog 90 #[.agg #[.string f.name, .int .i64 f.params, .int .i64 f.regs, vb]] w R := by
 obtain ⟨A, c, rfl, hmx, hcap, hs⟩ := h.cases_;rw [hn];obtain ⟨HR, Hs, Hnp, Hto, Hins, Hon, Hn⟩ := lh7 hR hs hnp hto hins hon hn;clear hR hs h hnp hto hins hon hn;obtain ⟨W1, hW1⟩ := nmm (w.alloc (Obj.cells #[.string f.name, .int .i64 f.params, .int .i64 (n : Int), .slice A f.blocks.length c] 56));have hb1 : Below w.heap.size w W1 := by subst hW1; exact bl0
 have HF1 : Hid (W1.heap[w.heap.size]? = some (.cells #[.string f.name, .int .i64 f.params, .int .i64 (n : Int), .slice A f.blocks.length c] 56 (0, 0))) := lh (by subst hW1; exact heap_alloc_new _ _);have Hb1 := lh hb1;have HW1 := lh hW1.symm;have hz1 := hb1.size;obtain ⟨e0, e1, e2, e3⟩ := q0j HF1.out;have lF := qa HF1.out;clear hb1 hW1;refine (callsIn_wide (n := 7)).1 ?_;refine callsIn_of_wp_marks Tryz.func90 rfl trivial ?_ rfl;simp only [Tryz.ntmps90, List.size_toArray, List.length_cons, List.length_nil, Nat.reduceAdd, Nat.reduceSub, Array.replicate_succ, Array.replicate_zero, List.push_toArray, List.append_toArray, List.nil_append, List.cons_append];refine wpIn_wide.2 (wp_mono (Q := postN Tryz.prog Tryz.f90 R) ?_ qax)
 go_upto_region 1 with fail
 rw [HW1.out]
 go_wp2_with fail
 refine qc0 f.name f.params (n : Int) f.blocks _ _ (Hs.out.up Hb1.out hz1) h40 Hto.out _ (fun w2 va hb2 hs2 => ?_);obtain ⟨Aa, ca, rfl, _, _, hs2⟩ := hs2.cases_;have Hah2 := lh hs2.SL;have hal : (q3a f.blocks).length = f.blocks.length := q6y _;rw [hal] at Hah2;rw [hal];have HF2 := lh ((hb2.block _ lF).trans HF1.out);have Hb2 := btt Hb1 hb2 hz1;have hz2 := Hb2.out.size;clear hb2 hs2 e0 e1 e2 e3;obtain ⟨e0, e1, e2, e3⟩ := q0j HF2.out;have lF2 := qa HF2.out;go_wp2;clear e0 e1 e2 e3
 go_loopg [2, 17] f.blocks.length (fun gh s2 s17 wr => ∃ (k : Nat) (gs : List (Nat × Nat)), k ≤ f.blocks.length ∧ gh = f.blocks.length - k ∧ s17 = .int .i64 (k : Int) ∧ Hid (SetRow w2.heap.size n wr s2 (List.replicate k (List.replicate n false)) gs) ∧ Hid (Below w2.heap.size w2 wr))
 case atStart => exact ⟨0, [], Nat.zero_le _, rfl, rfl, lh (SetRow.nil _ _ _), lh (Below.refl _ _)⟩
 case round =>
  obtain ⟨k, gs, hk, rfl, rfl, Hbu, Hbel⟩ := hrel;have hzr := Hbel.out.size;obtain ⟨A6, n6, hs6⟩ := qj Hbu.out.own;rw [List.length_replicate] at hs6;subst hs6;have HFr := lh ((Hbel.out.block _ lF2).trans HF2.out);obtain ⟨e0, e1, e2, e3⟩ := q0j HFr.out;have lFr := qa HFr.out
  by_cases hlt : k < f.blocks.length
  ·have k1 := nnn k;have k2 : (k : Int) < (f.blocks.length : Int) := by omega
   have hmk := qfh wr n (by omega);have Hst : Hid (List.replicate (k + 1) (List.replicate n false) = List.replicate k (List.replicate n false) ++ [List.replicate n false]) := lh List.replicate_succ';have hll : (List.replicate k (List.replicate n false)).length = k := List.length_replicate;have Hll := lh hll;generalize List.replicate k (List.replicate n false) = LT at *;have hb5 : Below wr.heap.size wr (wr.alloc (.cells (bitsA (List.replicate n false)) 4)) := by exact bl0
   have HBu5 := lh ((Hbu.out.below hb5).alloc (Obj.cells #[.slice (some ⟨wr.heap.size, 0, none⟩) n n] 160));have HSet : Hid (SetAt wr.heap.size (List.replicate n false) ((wr.alloc (.cells (bitsA (List.replicate n false)) 4)).alloc (Obj.cells #[.slice (some ⟨wr.heap.size, 0, none⟩) n n] 160))) := lh ((SetAt.of_blk (heap_alloc_new _ _)).alloc _);have Hlr := lh (Hbu.out.own.lt);have Hbel5 := btt Hbel hb5 hzr;have hwz5 : w2.heap.size ≤ (wr.alloc (.cells (bitsA (List.replicate n false)) 4)).heap.size := by simp; omega
   have hblk5 : ((wr.alloc (.cells (bitsA (List.replicate n false)) 4)).alloc (Obj.cells #[.slice (some ⟨wr.heap.size, 0, none⟩) n n] 160)).heap[wr.heap.size + 1]? = some (.cells #[.slice (some ⟨wr.heap.size, 0, none⟩) n n] 160 (0, 0)) := by
    have := heap_alloc_new (wr.alloc (.cells (bitsA (List.replicate n false)) 4)) (Obj.cells #[.slice (some ⟨wr.heap.size, 0, none⟩) n n] 160);simpa using this
   have Hblk5 := lh hblk5;clear hb5 hll hblk5
   go_wp2_with (at_builtin; refine qhv rfl _ _ rfl (v := .slice A6 k n6) (m := k) (xs := gs.map (setV n)) rfl (by have := HBu5.out.own; rw [Hll.out] at this; exact this) (wr.heap.size + 1) (some ⟨wr.heap.size, 0, none⟩) n n rfl Hblk5.out (by omega) (by simp; omega) ?_)
   intro v9 w9 hown9 hgrow9 hat9;obtain ⟨A9, c9, rfl⟩ := qj hown9;have HB9 := lh (HBu5.out.push HSet.out (by simp) (by omega) (Nat.le_refl _) (by rw [Hll.out]; exact hown9) hgrow9);have Hbel9 := lh ((Hbel5.out.alloc hwz5 (Obj.cells #[.slice (some ⟨wr.heap.size, 0, none⟩) n n] 160)).trans ((Grew.of_grown hgrow9).below (B := w2.heap.size) (fun j hj e => by have := (Hlr.out j e).1; omega) (by simp; omega)));clear hown9 hgrow9 hat9 e0 e1 e2 e3 hmk;go_wp2
   go_roundg (f.blocks.length - (k + 1))
   case measure => omega
   case rel => exact ⟨k + 1, _, by omega, rfl, by go_num, by rw [Hst.out]; exact HB9, Hbel9⟩
  ·obtain rfl : k = f.blocks.length := by omega
   have i2 : ¬ ((f.blocks.length : Int) < (f.blocks.length : Int)) := by omega
   clear e0 e1 e2 e3;go_wp2
   obtain ⟨gi, ci, hgi⟩ : ∃ gi ci, Value.slice A6 f.blocks.length n6 = .slice (some ⟨gi, 0, none⟩) f.blocks.length ci := by
    have := Hbu.out.own;rw [List.length_replicate] at this;obtain ⟨gi, ci, h⟩ := q3v this (by omega);exact ⟨gi, ci, h.1⟩
   injection hgi with hgi hg2 hci
   subst hgi;clear hg2 hci;obtain ⟨b1, off1, _, _, _, hA1, hlb1, _⟩ := Hs.out.blk_at (k := 0) (by omega);subst hA1;have Hlb1 := lh hlb1;clear hlb1;have hgi0 := Hbu.out.ownType (g := gi) rfl;obtain ⟨_, _, hgi1, hgi2⟩ := hgi0;obtain ⟨bo, hbo⟩ := nmm (wr.heap.size);have Hgi : Hid (w2.heap.size ≤ gi ∧ gi < bo ∧ w2.heap.size ≤ bo) := lh (by omega);have hbor : bo ≤ wr.heap.size := by omega
   clear hgi1 hgi2 hbo
   refine q3q (fun u => #[u 0, .pointer (some ⟨w.heap.size, 0, none⟩), .slice (some ⟨gi, 0, none⟩) f.blocks.length n6, u 3, .slice Aa f.blocks.length ca, u 5, u 6, u 7, u 8, u 9, u 10, u 11, u 12, u 13, u 14, u 15, u 16, u 17, u 18, u 19, u 20, u 21, u 22, u 23, u 24, u 25, u 26, u 27, u 28, u 29, u 30, u 31, u 32, u 33, u 34, u 35, u 36, u 37, u 38, u 39, u 40, u 41, u 42, u 43, u 44, u 45, u 46, u 47, u 48, u 49, u 50, u 51, u 52, u 53, u 54, u 55, u 56, u 57, u 58, u 59, u 60, u 61, u 62, u 63, u 64, u 65, u 66, u 67, u 68, u 69, u 70, u 71, u 72, u 73, u 74, u 75, u 76, u 77, u 78, u 79, u 80, u 81, u 82, u 83, u 84, u 85, u 86, u 87, u 88, u 89, u 90, u 91, u 92, u 93, u 94, u 95, u 96])
    (fun gh u ds wr => ∃ (more : Bool) (V : List (List Bool)) (gs : List (Nat × Nat)), gh = (if more = true then lackV V + 1 else 0) ∧ u 5 = .bool more ∧ Hid (GoodAll f n V) ∧ Hid (SetRow w2.heap.size n wr (.slice (some ⟨gi, 0, none⟩) f.blocks.length n6) V gs) ∧ Hid (Below w2.heap.size w2 wr) ∧ bo ≤ wr.heap.size ∧ Hid (DMarks w.heap.size wr ds) ∧
     Hid (more = false -> ∃ O gso, SetRow bo n wr (u 3) O gso ∧ O.length = f.blocks.length ∧ ∀ b (hb : b < f.blocks.length), ∀ r, r < n -> stepB f r (colV V r) b = bAt (rowV V b) r ∧ bAt (rowV O b) r = behB (colV V r) f.blocks[b]))
    (lackV (List.replicate f.blocks.length (List.replicate n false)) + 1) rfl ?_ ?_
   ·exact ⟨true, _, gs, rfl, rfl, lh GoodAll.first, Hbu, Hbel, hbor, lh .nil, lh (fun h => by cases h)⟩
   intro gh us ds wr hI K HK;obtain ⟨more, V, gsI, hgh, h5, HG, HBI, Hbr, hbr2, HM, Hend⟩ := hI;dsimp only;rw [h5];clear Hbu Hbel h5 hbor;have hzr := Hbr.out.size
   cases more
   ·obtain ⟨O, gso, hBO, hOl, hD⟩ := Hend.out rfl;obtain ⟨Ao, co, ho3⟩ := qj hBO.own;obtain ⟨HBO, HOl, HD⟩ := lh3 hBO hOl hD;clear hBO hOl hD Hend hgh HK;rw [ho3] at HBO ⊢;clear ho3;go_wp2;refine q1v (n₀ := w.heap.size) (by omega) HM.out (fun w' hsh => ?_)
    have hk2 : ∀ {v : Value} {L : List (List Bool)} {cs : List (Nat × Nat)} {base : Nat}, w.heap.size ≤ base -> SetRow base n wr v L cs -> rpBool.slice.SLF w' w.heap.size w'.heap.size L v := fun hbs hB => by
     have h1 := hB.SLF (b := w.heap.size) (by unfold maxLen; omega) hbs;rw [hsh.size]
     exact h1.mono fun p u _ hp => by
      obtain ⟨h3, h4⟩ := q3h hp;rw [q1w _ _ _ h4];exact hsh.cell h3
    have hmem : ∀ {L : List (List Bool)}, (∀ k, k < L.length -> (rowV L k).length = n) -> ∀ S ∈ L, S.length = n := fun h S hS => by
     obtain ⟨j, hj, rfl⟩ := List.mem_iff_getElem.1 hS;rw [q7t hj];exact h j hj
    exact ⟨_, by simp [results, Tryz.results90], HR.out w' V O _ _ (Hb2.out.trans ((Hbr.out.mono hz2).trans hsh.bel)) (hk2 hz2 HBI.out) (hk2 (by have := Hgi.out; omega) HBO.out) HG.out.len HOl.out (hmem HG.out.rows) (hmem HBO.out.rows) (fun r hr i => HG.out.done (fun b hb r hr => (HD.out b hb r hr).1) hr i) (fun b hb r hr => (HD.out b hb r hr).2)⟩
   have HF3 := lh ((Hbr.out.block _ lF2).trans HF2.out);obtain ⟨e0, e1, e2, e3⟩ := q0j HF3.out;have lF3 := qa HF3.out;go_wp2;clear e0 e1 e2 e3
   refine q3q (fun u => #[u 0, .pointer (some ⟨w.heap.size, 0, none⟩), .slice (some ⟨gi, 0, none⟩) f.blocks.length n6, u 3, .slice Aa f.blocks.length ca, u 5, u 6, u 7, u 8, u 9, u 10, u 11, u 12, u 13, u 14, u 15, u 16, u 17, u 18, u 19, u 20, u 21, u 22, u 23, u 24, u 25, u 26, u 27, u 28, .int .i64 (f.blocks.length : Int), u 30, u 31, u 32, u 33, u 34, u 35, u 36, u 37, u 38, u 39, u 40, u 41, u 42, u 43, u 44, u 45, u 46, u 47, u 48, u 49, u 50, u 51, u 52, u 53, u 54, u 55, u 56, u 57, u 58, u 59, u 60, u 61, u 62, u 63, u 64, u 65, u 66, u 67, u 68, u 69, u 70, u 71, u 72, u 73, u 74, u 75, u 76, u 77, u 78, u 79, u 80, u 81, u 82, u 83, u 84, u 85, u 86, u 87, u 88, u 89, u 90, u 91, u 92, u 93, u 94, u 95, u 96])
    (fun gh u ds wx => ∃ (b : Nat) (more : Bool) (V' : List (List Bool)) (gs' : List (Nat × Nat)) (O : List (List Bool)) (gso : List (Nat × Nat)), b ≤ f.blocks.length ∧ gh = f.blocks.length - b ∧ u 30 = .int .i64 (b : Int) ∧ u 5 = .bool more ∧ Hid (GoodAll f n V') ∧ Hid (SetRow w2.heap.size n wx (.slice (some ⟨gi, 0, none⟩) f.blocks.length n6) V' gs') ∧ Hid (SetRow bo n wx (u 3) O gso) ∧ O.length = b ∧ Hid (Below w2.heap.size w2 wx) ∧ bo ≤ wx.heap.size ∧ Hid (DMarks w.heap.size wx ds) ∧
     Hid (more = true -> lackV V' < lackV V) ∧ Hid (more = false -> V' = V ∧ ∀ j (hj : j < f.blocks.length), j < b -> ∀ r, r < n -> stepB f r (colV V' r) j = bAt (rowV V' j) r ∧ bAt (rowV O j) r = behB (colV V' r) f.blocks[j]))
    f.blocks.length rfl ?_ ?_
   ·exact ⟨0, false, V, gsI, [], [], Nat.zero_le _, rfl, rfl, rfl, HG, HBI, lh (SetRow.nil _ _ _), rfl, Hbr, hbr2, HM, lh (fun h => by cases h), lh (fun _ => ⟨rfl, fun j _ h => absurd h (Nat.not_lt_zero j)⟩)⟩
   intro gh3 u3 ds3 wx hI3 K3 HK3;obtain ⟨b, more, V', gs', O, gso, hbN, hgh3, h30, h5, HG', HBI', HBO', hOl, Hbx, hbx2, HM', Hless, Hdone⟩ := hI3;dsimp only;rw [h30, h5];obtain ⟨Ao, co, ho3⟩ := qj HBO'.out.own;rw [hOl] at ho3;rw [ho3] at HBO' ⊢;have hgO : gso.length = b := by rw [HBO'.out.len, hOl]
   obtain ⟨HOl, HgO, Hgh3⟩ := lh3 hOl hgO hgh3;clear h30 h5 ho3 hOl hgO hgh3 HG HBI HM Hend hbr2 Hbr hzr HF3 lF3;have hzx := Hbx.out.size;have HF4 := lh ((Hbx.out.block _ lF2).trans HF2.out);obtain ⟨e0, e1, e2, e3⟩ := q0j HF4.out;have lF4 := qa HF4.out;have k1 := nnn b
   by_cases hlt : ¬ b < f.blocks.length
   ·have hbe : b = f.blocks.length := by omega
    subst hbe;have k2 : ¬ ((f.blocks.length : Int) < (f.blocks.length : Int)) := by omega
    clear hlt;go_wp2;refine HK.out (if more = true then lackV V' + 1 else 0) _ _ _ ?_ ?_ ?_
    ·have := Hless.out
     cases more
     ·simp only [Bool.false_eq_true, if_false];rw [hgh];simp
     ·have := this rfl;rw [hgh];simp only [if_true];omega
    ·rfl
    refine ⟨more, V', gs', rfl, rfl, HG', HBI', Hbx, hbx2, HM', lh fun hm => ⟨O, gso, HBO'.out, HOl.out, fun j hj r hr => ?_⟩⟩;exact (Hdone.out hm).2 j hj hj r hr
   have hlt := Decidable.of_not_not hlt;have k2 : (b : Int) < (f.blocks.length : Int) := by omega
   obtain ⟨b9, off9, vp, vl, vt, hA9, hb9, hp, hl, ht, q0, q1, q2, q3, q4, q5⟩ := Hs.out.blk_at hlt
   cases hA9
   obtain ⟨Ap, cp, rfl, _, _, hp⟩ := hp.cases_;obtain ⟨Al, cl, rfl, hlm, _, hl⟩ := hl.cases_;obtain ⟨At, ct, rfl, _, _, ht⟩ := ht.cases_;obtain ⟨F, hF⟩ := q6d hl;obtain ⟨bk, hbk⟩ := nmm (f.blocks[b]);have Hph : Hid (bk.phis.length = 0) := lh (by rw [hbk, Hnp.out _ (List.getElem_mem hlt)]; rfl);have Hib : Hid (∀ x ∈ bk.list, InsOk u n x) := lh (by rw [hbk]; exact Hins.out _ (List.getElem_mem hlt));have Hob : Hid (ValOk n bk.end_.on) := lh (by rw [hbk]; exact Hon.out _ (List.getElem_mem hlt));have Hstep : Hid (∀ r (W : Nat -> Bool), stepB f r W b = q39 bk.list (behB W bk || regIs bk.end_.on r) r) := lh fun r W => by rw [hbk]; exact qmf W hlt
   rw [<- hbk] at hF q0 q1 q2 q3 q4 q5 hl hlm;obtain ⟨HF0, Hlm, Hbk⟩ := lh3 hF hlm hbk
   have Hq : Hid (∀ W, Below w2.heap.size w2 W -> W.cell? ⟨b1, off1 + b * 6, none⟩ = some (.slice Ap bk.phis.length cp) ∧ W.cell? ⟨b1, off1 + b * 6 + 1, none⟩ = some (.slice Al bk.list.length cl) ∧ W.cell? ⟨b1, off1 + b * 6 + 3, none⟩ = some (.bool bk.end_.on.reg) ∧ W.cell? ⟨b1, off1 + b * 6 + 4, none⟩ = some (.int .i64 bk.end_.on.n) ∧ b1 < W.heap.size) := lh fun W hW => by
    have hwW := Hb2.out.trans (hW.mono hz2);have := hwW.size;exact ⟨(hwW.cell (p := ⟨b1, off1 + b * 6, none⟩) hb9).trans q0, (hwW.cell (p := ⟨b1, off1 + b * 6 + 1, none⟩) hb9).trans q1, (hwW.cell (p := ⟨b1, off1 + b * 6 + 3, none⟩) hb9).trans q3, (hwW.cell (p := ⟨b1, off1 + b * 6 + 4, none⟩) hb9).trans q4, by omega⟩
   clear hp hl ht q0 q1 q2 q3 q4 q5 hF hlm hbk;have hwx := lh (Hb2.out.trans (Hbx.out.mono hz2))
   go_wp2_with fail
   refine q7w f n _ _ _ (q3a f.blocks) V' b _ Hn.out hn1 Hnp.out (fun b hb => (Hto.out b hb).2) hlt (Hs.out.up hwx.out hwx.out.size) (Hah2.out.up Hbx.out hzx) (q6y _) (HBI'.out.SL (by unfold maxLen; omega)) HG'.out.len HG'.out.rows _ (fun w3 g S hb3 hg hset hlen hval => ?_);rw [<- Hbk.out] at hval;obtain ⟨Hval, Hlen⟩ := lh2 hval hlen;have HBO3 := lh ((HBO'.out.below hb3).alloc (Obj.cells #[.slice (some ⟨g, 0, none⟩) n n] 160));have HBI3 := lh ((HBI'.out.below hb3).alloc (Obj.cells #[.slice (some ⟨g, 0, none⟩) n n] 160));have HM3 := lh ((HM'.out.onto hb3).onto (by exact bl0 : Below w3.heap.size w3 (w3.alloc (Obj.cells #[.slice (some ⟨g, 0, none⟩) n n] 160))));have HS3 := lh (hset.alloc (Obj.cells #[.slice (some ⟨g, 0, none⟩) n n] 160));have Hb3 := btt Hbx hb3 hzx;have hz3 := Hb3.out.size;have hbo3 : bo ≤ w3.heap.size := by have := hb3.size; omega
   have Hg3 : Hid (wx.heap.size ≤ g ∧ g < w3.heap.size) := lh ⟨hg, hset.lt⟩;clear hb3 hg hset hlen hval e0 e1 e2 e3;have hll := HOl.out;have hgl := HgO.out
   go_wp2_with (at_builtin; refine qhv rfl _ _ rfl (v := .slice Ao b co) (m := b) (xs := gso.map (setV n)) rfl (by have := HBO3.out.own; rw [HOl.out] at this; exact this) w3.heap.size (some ⟨g, 0, none⟩) n n rfl (heap_alloc_new _ _) (by omega) (by simp; omega) ?_)
   intro v5 w5 hown5 hgrow5 hat5;obtain ⟨A5, c5, rfl⟩ := qj hown5;have HBO5 : Hid (SetRow bo n w5 (.slice A5 (b + 1) c5) (O ++ [S]) (gso ++ [(g, n)])) := lh (HBO3.out.push HS3.out Hlen.out (by have := Hg3.out; omega) (Nat.le_refl _) (by rw [HOl.out]; exact hown5) hgrow5);have hrow5 : ∀ k, (Value.slice Ao b co).ownBlock = some k -> ∃ A, (w3.alloc (Obj.cells #[.slice (some ⟨g, 0, none⟩) n n] 160)).heap[k]? = some (.cells A 160 (0, 0)) ∧ bo ≤ k ∧ k < (w3.alloc (Obj.cells #[.slice (some ⟨g, 0, none⟩) n n] 160)).heap.size := fun k e => HBO3.out.ownType e
   have HBI5 := lh (HBI3.out.grown hgrow5 (fun k e => by
    obtain ⟨A, h1, h2, h3⟩ := hrow5 k e;refine ⟨fun e2 => ?_, fun B hB => ?_⟩
    ·have : gi = k := Option.some.inj e2;have := Hgi.out;omega
    ·rw [h1] at hB;injection hB with hB
     injection hB with _ hB _
     exact absurd hB (by decide)))
   have HM5 := lh (HM3.out.row hgrow5 (fun k e => by obtain ⟨A, h1, _⟩ := hrow5 k e; exact ⟨_, _, _, h1⟩));have HS5 := lh (HS3.out.grownRow hgrow5 (fun k e => by obtain ⟨A, h1, _⟩ := hrow5 k e; exact ⟨_, h1⟩));have Hb5 := lh ((Hb3.out.alloc hz3 (Obj.cells #[.slice (some ⟨g, 0, none⟩) n n] 160)).trans ((Grew.of_grown hgrow5).below (B := w2.heap.size) (fun j hj e => by obtain ⟨_, _, h2, _⟩ := hrow5 j e; have := Hgi.out; omega) (by simp; omega)));have hz5 := Hb5.out.size;have hbo5 : bo ≤ w5.heap.size := by have := hgrow5.size; simp at this; omega
   clear hown5 hgrow5 hat5 hrow5 HBO3 HBI3 HM3 HS3 Hb3 hz3;obtain ⟨gb, hA5, hc5⟩ := HBO5.out.cell (k := b) (by rw [List.length_append, hgl]; simp);subst hA5
   have hel : (gso ++ [(g, n)])[b]'(by rw [List.length_append, hgl]; simp) = (g, n) := by
    rw [List.getElem_append_right (by omega)];simp [hgl]
   rw [hel] at hc5;have hc5' : w5.cell? ⟨gb, b, none⟩ = some (.slice (some ⟨g, 0, none⟩) n n) := hc5;have lgb : gb < w5.heap.size := World.block_lt_of_cell? w5 _ hc5';have k3 : (b : Int) < ((b + 1 : Nat) : Int) := by omega
   clear hc5 hel
   go_wp2_with fail
   refine qb7 S g n n _ HS5.out Hlen.out (Nat.le_refl _) (by omega) _ (fun w6 gc cc hb6 hgc hset6 hcc => ?_);obtain ⟨gT, hgT⟩ := nmm (w6.heap.size);obtain ⟨W7, hW7⟩ := nmm (w6.alloc (Obj.cells #[.slice (some ⟨gc, 0, none⟩) n cc] 160));have hb67 : Below w6.heap.size w6 W7 := by subst hW7; exact bl0
   have hb57 := hb6.trans (hb67.mono hb6.size);have HT7 : Hid (W7.heap[gT]? = some (.cells #[.slice (some ⟨gc, 0, none⟩) n cc] 160 (0, 0))) := lh (by subst hW7 hgT; exact heap_alloc_new _ _);have HS7 := lh (hset6.below hb67);have HB57 := lh hb57;have Hb7 := btt Hb5 hb57 hz5;have hz7 := Hb7.out.size;have Hgc : Hid (w5.heap.size ≤ gc ∧ gc < gT ∧ n ≤ cc) := lh ⟨hgc, by rw [hgT]; exact hset6.lt, hcc⟩;have HF7 := lh ((Hb7.out.block _ lF2).trans HF2.out);have HW7 := lh hW7.symm;have c70 : W7.cell? ⟨gT, 0, none⟩ = some (.slice (some ⟨gc, 0, none⟩) n cc) := cqq HT7.out;have l7T := qa HT7.out;obtain ⟨e0, e1, e2, e3⟩ := q0j HF7.out;have lF7 := qa HF7.out;obtain ⟨r0, r1, r3, r4, lb7⟩ := Hq.out W7 Hb7.out;have hbl7 := hb57.size;clear hb6 hgc hset6 hcc hW7 hb67 hb57 hc5' lgb
   go_upto_region 14 with fail
   rw [HW7.out];rw [<- hgT];clear hgT;have hlen7 := Hlen.out;have hS0 : W7.cell? ⟨gT, 0, none⟩ = some (.slice (some ⟨gc, 0, none⟩) n cc) ∧ W7.cell? ⟨w.heap.size, 3, none⟩ = some (.slice (some ⟨b1, off1, none⟩) f.blocks.length c) ∧ W7.cell? ⟨b1, off1 + b * 6 + 3, none⟩ = some (.bool bk.end_.on.reg) ∧ W7.cell? ⟨b1, off1 + b * 6 + 4, none⟩ = some (.int .i64 bk.end_.on.n) := ⟨c70, e3, r3, r4⟩;have HS0 := lh hS0;have hgcw : gT ≠ gc ∧ w.heap.size ≠ gc ∧ b1 ≠ gc := by have := Hgc.out; have := Hlb1.out; omega
   have Hgcw := lh hgcw;clear hS0 hgcw
   go_region_held3 (fun W : World => W.cell? ⟨gT, 0, none⟩ = some (.slice (some ⟨gc, 0, none⟩) n cc) ∧ W.cell? ⟨w.heap.size, 3, none⟩ = some (.slice (some ⟨b1, off1, none⟩) f.blocks.length c) ∧ W.cell? ⟨b1, off1 + b * 6 + 3, none⟩ = some (.bool bk.end_.on.reg) ∧ W.cell? ⟨b1, off1 + b * 6 + 4, none⟩ = some (.int .i64 bk.end_.on.n)) (first | exact HS0.out | exact hS8) (first | (go_at_call 118; refine q5w S cc n Hlen.out gc bk.end_.on _ (by first | exact HS7.out | exact HS7.out.below (by exact bl0)) (by rw [Hlen.out]; exact Hob.out) _ ?_; intro w8 hset8 hgr8; have hS8 : w8.cell? ⟨gT, 0, none⟩ = some (.slice (some ⟨gc, 0, none⟩) n cc) ∧ w8.cell? ⟨w.heap.size, 3, none⟩ = some (.slice (some ⟨b1, off1, none⟩) f.blocks.length c) ∧ w8.cell? ⟨b1, off1 + b * 6 + 3, none⟩ = some (.bool bk.end_.on.reg) ∧ w8.cell? ⟨b1, off1 + b * 6 + 4, none⟩ = some (.int .i64 bk.end_.on.n) := ⟨(CKeep.of_grown hgr8).cell HS0.out.1 Hgcw.out.1, (CKeep.of_grown hgr8).cell HS0.out.2.1 Hgcw.out.2.1, (CKeep.of_grown hgr8).cell HS0.out.2.2.1 Hgcw.out.2.2, (CKeep.of_grown hgr8).cell HS0.out.2.2.2 Hgcw.out.2.2⟩))
   have hgr78 : W7.grownBy w8 (some gc) := (qw ((Below.refl W7.heap.size W7).drew) (some gc)).trans hgr8;obtain ⟨S1, hS1⟩ := nmm (takeS S bk.end_.on);rw [<- hS1] at hset8;have hlen1 : S1.length = n := by rw [hS1, q4z]; exact Hlen.out
   have Hlen1 := lh hlen1;have hk78 := CKeep.of_grown hgr78;have HT8 := lh (hk78.blk HT7.out Hgcw.out.1);have HF8 := lh (hk78.blk HF7.out Hgcw.out.2.1);have hb58 : Below w5.heap.size w5 w8 := HB57.out.trans ((Below.refl w5.heap.size W7).grown hgr78 hbl7 (fun k e => by cases e; have := Hgc.out; omega));have Hb8 := btt Hb5 hb58 hz5;obtain ⟨HB58, Hset8, HS1⟩ := lh3 hb58 hset8 hS1;have hz8 := Hb8.out.size;obtain ⟨t0, t1, t3, t4, lb8⟩ := Hq.out w8 Hb8.out;clear hgr8 hS8 hset8 hS1 hlen1 hk78 hb58 hgr78 c70 l7T e0 e1 e2 e3 lF7 r0 r1 r3 r4 lb7 HS7 HT7 HF7;obtain ⟨e0, e1, e2, e3⟩ := q0j HF8.out;have lF8 := qa HF8.out;have c80 : w8.cell? ⟨gT, 0, none⟩ = some (.slice (some ⟨gc, 0, none⟩) n cc) := cqq HT8.out;have l8T := qa HT8.out
   go_wp2_with fail
   refine q9g Al bk.list.length cl _ _ ?_;go_wp2;obtain ⟨W9, hW9, hb89, hbox9⟩ := box1 w8 (.cells #[.slice Al bk.list.length cl] 62) rfl;have hb9 := HB58.out.trans (hb89.mono HB58.out.size);have hb29 := Hb8.out.trans (hb89.mono hz8);have hset9 := Hset8.out.below hb89;have hT9 := (hb89.block _ (qa HT8.out)).trans HT8.out;have hlt9 := hset9.lt;have hN9 : BackNeed bk.list F Al cl w8.heap.size w.heap.size gc W9 := ⟨hbox9, HF0.out.up (Hb2.out.trans (hb29.mono hz2)), by have := Hset8.out.lt; omega, by have := Hgc.out; omega, hlt9⟩;have hmaxl : bk.list.length ≤ maxLen := by have := Hlm.out; unfold maxLen; omega
   obtain ⟨Hb9, Hset9, HT9, HN9⟩ := lh4 hb9 hset9 hT9 hN9;have h59 : w5.heap.size ≤ W9.heap.size := hb9.size;rw [<- hW9];clear hW9 hb89 hbox9 hb9 hb29 hset9 hT9 hN9 hlt9 t0 t1 t3 t4 lb8 e0 e1 e2 e3 lF8 c80 l8T;refine (wpIn_wide (n := 7)).1 ?_
   refine wpIn_rangeFunc_ownH (F := Fence.wide) rfl (by decide) (gf := 129) (lb := #[.pointer (some ⟨w8.heap.size, 0, none⟩)]) rfl trivial (enters_of Tryz.func129 (by kernel_rfl) rfl)
    (q9h 6 (by decide) w8.heap.size w.heap.size gc bk.list F Al cl hmaxl W9 HN9.out) (fun h k => h.trans k) (fun W l o o' _ h1 h2 _ => CKeep.putObj W l o o' h1 h2) (Below.refl _ _) (fun _ => rfl)
    (fun (pre : List (Fin bk.list.length)) (W : World) => SetI gc (pre.foldl (fun S j => insS S bk.list[j.1]) S1) W9 W ∧ W.heap[gT]? = some (.cells #[.slice (some ⟨gc, 0, none⟩) n cc] 160 (0, 0)))
    (fun _ _ _ => False)
    (OwnFrom.and (q6q (Nat.le_refl _)) (q2s _ _ _ _ _)) (fun _ _ _ _ _ hs _ _ => hs) ⟨⟨Hset9.out, q38 _ _, CKeep.refl _ _⟩, HT9.out⟩
    (fun (j : Fin bk.list.length) (a' : Act) (W : World) => ∃ Bx, W.heap[Bx]? = some (Obj.cells (insC bk.list[j.1] (F j.1)) 71 ((0, 0) : Nat × Nat)) ∧ a' = { tmps := #[u3 0, Value.pointer (some { block := w.heap.size, off := 0 }), Value.slice (some { block := gi, off := 0 }) f.blocks.length n6, Value.slice (some { block := gb, off := 0 }) (b + 1) c5, Value.slice Aa f.blocks.length ca, Value.bool more, Value.int IntKind.i64 ↑b, Value.pointer (some { block := gT, off := 0 }), u3 8, .pointer (some ⟨Bx, 0, none⟩), u3 10, u3 11, u3 12, u3 13, u3 14, u3 15, u3 16, u3 17, u3 18, u3 19, u3 20, u3 21, u3 22, u3 23, u3 24, u3 25, u3 26, u3 27, u3 28, Value.int IntKind.i64 ↑f.blocks.length, Value.int IntKind.i64 ↑b, Value.bool true, Value.int IntKind.i64 ↑b, Value.slice Ao b co, Value.agg #[Value.string f.name, Value.int IntKind.i64 f.params, Value.int IntKind.i64 ↑n, Value.slice (some { block := b1, off := off1 }) f.blocks.length c], Value.slice Aa f.blocks.length ca, Value.slice (some { block := gi, off := 0 }) f.blocks.length n6, Value.int IntKind.i64 ↑b, Value.slice (some { block := g, off := 0 }) n n, Value.slice (some { block := w3.heap.size, off := 0 }) 1 1, Value.slice (some { block := gb, off := 0 }) (b + 1) c5, Value.slice (some { block := gb, off := 0 }) (b + 1) c5, Value.int IntKind.i64 ↑b, Value.pointer (some { block := gb, off := b }), Value.slice (some { block := g, off := 0 }) n n, Value.slice (some { block := gc, off := 0 }) n cc, Value.slice (some { block := gc, off := 0 }) n cc, Value.pointer (some { block := w.heap.size, off := 3 }), Value.slice (some { block := b1, off := off1 }) f.blocks.length c, Value.int IntKind.i64 ↑b, Value.pointer (some { block := b1, off := off1 + b * 6 }), Value.pointer (some { block := b1, off := off1 + b * 6 + 2 }), Value.pointer (some { block := b1, off := off1 + b * 6 + 2 + 1 }), Value.agg #[Value.bool bk.end_.on.reg, Value.int IntKind.i64 bk.end_.on.n], Value.tuple #[], Value.pointer (some { block := w.heap.size, off := 3 }), Value.slice (some { block := b1, off := off1 }) f.blocks.length c, Value.int IntKind.i64 ↑b, Value.pointer (some { block := b1, off := off1 + b * 6 }), Value.pointer (some { block := b1, off := off1 + b * 6 + 1 }), Value.slice Al bk.list.length cl, Value.func (Fn.func 129) #[] #[Value.pointer (some { block := w8.heap.size, off := 0 })], .int .i64 (j.1 : Int), .agg (insC bk.list[j.1] (F j.1)), u3 64, u3 65, u3 66, u3 67, u3 68, u3 69, u3 70, u3 71, u3 72, u3 73, u3 74, u3 75, u3 76, u3 77, u3 78, u3 79, u3 80, u3 81, u3 82, u3 83, u3 84, u3 85, u3 86, u3 87, u3 88, u3 89, u3 90, u3 91, u3 92, u3 93, u3 94, u3 95, u3 96], defers := [] })
    (fun (j : Fin bk.list.length) a' s X Y row hs hg hr => by obtain ⟨Bx, h1, h2⟩ := hs; exact ⟨Bx, q2s Bx (insC bk.list[j.1] (F j.1)) 71 (0, 0) W9.heap.size () X Y row h1 hg hr, h2⟩) ?assign ?body ?done ?stop
   case assign =>
    rintro l pre j W K9 ⟨hI, hB⟩ hK;obtain ⟨_, _, hA7, hb7, hvj, hj8⟩ := HF0.out j.1 j.2;clear hA7 hb7 hj8;obtain ⟨Aj, cj, hFj, _, _, _⟩ := hvj.cases_;unfold encB insC;dsimp only at hK;unfold insC at hK;rw [hFj] at hK ⊢;clear hFj
    gi_wp2
    exact hK _ _ ((KeepsOthers.alloc _ _).from _) (CKeep.of_below ((Below.refl W.heap.size W).alloc (Nat.le_refl _) _)) ⟨hI.alloc _, qf hB _⟩ ⟨W.heap.size, heap_alloc_new _ _, rfl⟩
   case body =>
    rintro l pre j a' W hl ⟨r, hr⟩ ⟨hI, hB⟩ ⟨Bx, hv, rfl⟩ hlen;obtain ⟨b7, off7, hA7, hb7, hva, _⟩ := HF0.out j.1 j.2;have hlenf : (pre.foldl (fun S (j : Fin bk.list.length) => insS S bk.list[j.1]) S1).length = n := by rw [qig]; exact Hlen1.out
    have Hlenf := lh hlenf;have hva9 : rpVal.SL W w.heap.size bk.list[j.1].args (F j.1) := ((HN9.out.row j.1 j.2).choose_spec.choose_spec.2.2.1).mono (fun p u hp hc => hI.2.2.cell hc (by have := Hgc.out; omega));have Hva9 := lh hva9;have c0 : W.cell? ⟨gT, 0, none⟩ = some (.slice (some ⟨gc, 0, none⟩) n cc) := cqq hB;have lT := qa hB;have hix := Hib.out bk.list[j.1] (List.getElem_mem j.2);have Hix := lh hix;have hcI : ∀ k v, (insC bk.list[j.1] (F j.1))[k]? = some v -> W.cell? ⟨Bx, k, none⟩ = some v := fun k v h => by rw [qb hv]; exact h
    have x0 := hcI 0 _ rfl;have x1 := hcI 1 _ rfl;have x2 := hcI 2 _ rfl;have x3 := hcI 3 _ rfl;have x4 := hcI 4 _ rfl;have x5 := hcI 5 _ rfl;have x6 := hcI 6 _ rfl;have x7 := hcI 7 _ rfl;have lx := qa hv;obtain ⟨HI, HB⟩ := lh2 hI hB;clear hI hB hv hA7 hb7 hva hlenf hva9 hix hcI;unfold insC
    gi_wp2
    refine ⟨trivial, CallsIn.inRound l (callsIn_wide.2 (qb6 u _ cc n gc w.heap.size bk.list[j.1] (F j.1) W Hlenf.out HI.out.1 Hix.out Hva9.out (by have := Hgc.out; omega) _ (fun w2' h1 h2 => ?_)))⟩;have h3 := CKeep.of_grown h2;have hI2 : SetI gc ((pre ++ [j]).foldl (fun S (j : Fin bk.list.length) => insS S bk.list[j.1]) S1) W9 w2' := ⟨by rw [List.foldl_append]; exact h1, HI.out.2.1.trans h2, HI.out.2.2.trans h3⟩;have hB2 := h3.blk HB.out Hgcw.out.1;have hKF : KeepsFrom W9.heap.size W w2' := KeepsFrom.of_grownBy h2 (fun k e => by cases e; have := Hset9.out.lt; omega)
    gi_wp2
    exact ⟨hKF, h3, hI2, hB2⟩
   case done =>
    rintro D ys W hD hys ⟨hI, hB⟩ hK;rw [qih, qez hys] at hI;have hbk := qep bk.list S1 Hib.out Hlen1.out;obtain ⟨S2, hS2⟩ := nmm (bk.list.reverse.foldl insS S1);rw [<- hS2] at hI hbk
    have hval2 : ∀ r, r < n -> bAt S2 r = stepB f r (colV V' r) b := fun r hr => by
     rw [hbk.2 r hr, HS1.out, qfv Hob.out (by rw [Hlen.out]), Hval.out r hr, Hstep.out r, Hlen.out, decide_eq_true hr, Bool.and_true];rfl
    have Hval2 := lh hval2;have Hlen2 := lh hbk.1;have hb5W : Below w5.heap.size w5 W := Hb9.out.grown hI.2.1 h59 (fun k e => by cases e; exact Hgc.out.1);have HsW := lh hI.1;have HBOW := lh (HBO5.out.below hb5W);have HBIW := lh (HBI5.out.below hb5W);have HMW := lh (DMarks.push HM5.out (HM5.out.onto hb5W) (by omega) (by omega) hK);have HbW := btt Hb5 hb5W hz5;have hzW := HbW.out.size;have hboW : bo ≤ W.heap.size := by have := hb5W.size; omega
    have cgT : W.cell? ⟨gT, 0, none⟩ = some (.slice (some ⟨gc, 0, none⟩) n cc) := cqq hB;have lgT := qa hB;have HFW := lh ((HbW.out.block _ lF2).trans HF2.out);obtain ⟨e0, e1, e2, e3⟩ := q0j HFW.out;have lFW := qa HFW.out;obtain ⟨t0, t1, t3, t4, lbW⟩ := Hq.out W HbW.out;rw [Hph.out] at t0;have hgl2 : gs'.length = f.blocks.length := by rw [HBIW.out.len]; exact HG'.out.len
    obtain ⟨gq, hgq, hcq⟩ := HBIW.out.cell (k := b) (by rw [hgl2]; exact hlt);have hgq : gi = gq := by injection hgq with h; injection h
    subst hgq;obtain ⟨hsb, hsb2, hsb3⟩ := HBIW.out.sets b (by rw [hgl2]; exact hlt);obtain ⟨⟨g9, c9⟩, hgc9⟩ : ∃ p, p = gs'[b]'(by rw [hgl2]; exact hlt) := ⟨_, rfl⟩;rw [<- hgc9] at hcq hsb hsb2 hsb3;unfold setV at hcq;dsimp only at hcq hsb hsb2 hsb3;have hlenb := HG'.out.rows b (by rw [HG'.out.len]; exact hlt);have lgi := World.block_lt_of_cell? W _ hcq;obtain ⟨Hsb, Hsb3, Hlenb⟩ := lh3 hsb hsb3 hlenb;clear hI hB hK hbk hS2 hval2 hb5W hsb hsb2 hsb3 hgc9 hlenb;go_wp2
    go_loopg [74] 0 (fun gh s74 wr => gh = 0 ∧ s74 = .int .i64 0 ∧ wr = W)
    case atStart => exact ⟨rfl, rfl, rfl⟩
    case round =>
     obtain ⟨rfl, rfl, hwr⟩ := hrel;rw [hwr];clear hwr;go_wp2
     have hsl2 : rpBool.SL W W.heap.size S2 (.slice (some ⟨gc, 0, none⟩) n cc) := by
      have := HsW.out.SL (cp := cc) (by rw [Hlen2.out]; unfold maxLen; omega) (by rw [Hlen2.out]; exact Hgc.out.2.2);rw [Hlen2.out] at this;exact this
     have hslb : rpBool.SL W W.heap.size (rowV V' b) (.slice (some ⟨g9, 0, none⟩) n c9) := by
      have := Hsb.out.SL (cp := c9) (by rw [Hlenb.out]; unfold maxLen; omega) (by rw [Hlenb.out]; exact Hsb3.out);rw [Hlenb.out] at this;exact this
     have Hsl2 := lh (hsl2.up (by exact bl0 : Below W.heap.size W W.drew) (Nat.le_refl _));have Hslb := lh (hslb.up (by exact bl0 : Below W.heap.size W W.drew) (Nat.le_refl _));have Hll : Hid (S2.length = (rowV V' b).length) := lh (by rw [Hlen2.out, Hlenb.out]);have hS9 : W.cell? ⟨gT, 0, none⟩ = some (.slice (some ⟨gc, 0, none⟩) n cc) ∧ W.cell? ⟨gi, b, none⟩ = some (.slice (some ⟨g9, 0, none⟩) n c9) := ⟨cgT, hcq⟩;have HS9 := lh hS9;clear hS9 hsl2 hslb
     go_region_held3 (fun X : World => X.cell? ⟨gT, 0, none⟩ = some (.slice (some ⟨gc, 0, none⟩) n cc) ∧ X.cell? ⟨gi, b, none⟩ = some (.slice (some ⟨g9, 0, none⟩) n c9)) (first | exact HS9.out | exact hS9') (first | (go_at_call 120; refine q9e S2 (rowV V' b) _ _ _ Hsl2.out Hslb.out Hll.out _ ?_; intro wy hby0; have hby : Below W.heap.size W wy := (by exact bl0 : Below W.heap.size W W.drew).trans hby0; have hS9' : wy.cell? ⟨gT, 0, none⟩ = some (.slice (some ⟨gc, 0, none⟩) n cc) ∧ wy.cell? ⟨gi, b, none⟩ = some (.slice (some ⟨g9, 0, none⟩) n c9) := ⟨(hby.cell (p := ⟨gT, 0, none⟩) lgT).trans HS9.out.1, (hby.cell (p := ⟨gi, b, none⟩) lgi).trans HS9.out.2⟩))
     clear Hsl2 Hslb Hll HS9 e0 e1 e2 e3 t0 t1 t3 t4 lbW cgT hcq;have hzy := hby.size;have hby0 := HbW.out.trans (hby.mono hzW);have HbY := lh hby0;have HBOY := lh (HBOW.out.below hby);have HBIY := lh (HBIW.out.below hby);have HMY := lh (HMW.out.onto hby);have HsY := lh (HsW.out.below hby);have hzY := hby0.size;have hboY : bo ≤ wy.heap.size := by omega
     obtain ⟨y0, y1⟩ := hS9';have lgTy : gT < wy.heap.size := by omega
     have lgiy : gi < wy.heap.size := by omega
     clear hby hby0 hzy;obtain ⟨Bg, hBg, _, _⟩ := HBIY.out.ownType (g := gi) rfl;have hfz := fzz hBg b;have HBg := lh hBg;clear hBg;obtain ⟨qv, hqv⟩ := nmm (decide (S2 = rowV V' b));rw [<- hqv];have Hqv := lh hqv;clear hqv
     cases qv
     ·go_wp2;have hne : S2 ≠ rowV V' b := fun e => by have := Hqv.out; rw [decide_eq_true e] at this; cases this
      have hbelS : Below w2.heap.size w2 (wy.setCell ⟨gi, b, none⟩ (.slice (some ⟨gc, 0, none⟩) n cc)) := Below.setCell (p := ⟨gi, b, none⟩) HbY.out (by have := Hgi.out; show w2.heap.size ≤ gi; omega) _;refine HK3.out (f.blocks.length - (b + 1)) _ _ _ (by have := Hgh3.out; omega) ?_ ?_
      ·rfl
      have hVl : V'.length = f.blocks.length := HG'.out.len;refine ⟨b + 1, true, V'.set b S2, gs'.set b (gc, cc), O ++ [S], gso ++ [(g, n)], hlt, rfl, by go_num, rfl, lh (HG'.out.step hlt Hlen2.out Hval2.out), lh ?_, lh ?_, by rw [List.length_append, HOl.out]; rfl, lh hbelS, ?_, lh ?_, lh fun _ => ?_, lh fun h => by cases h⟩
      ·have h1 := HBIY.out;rw [<- hVl] at h1 ⊢;exact h1.setE (by rw [hVl]; exact hlt) HsY.out Hlen2.out (by have := Hgc.out; omega) Hgc.out.2.2
      ·show SetRow bo n _ (.slice (some ⟨gb, 0, none⟩) (b + 1) c5) _ _;exact HBOY.out.keep (fun k o hk h2 _ => (Below.heap_setCell _ _ _ _ (fun e => by have e : k = gi := e; have := Hgi.out; omega)).trans h2)
      ·have : (wy.setCell ⟨gi, b, none⟩ (.slice (some ⟨gc, 0, none⟩) n cc)).heap.size = wy.heap.size := by simp [World.setCell]
       omega
      ·exact HMY.out.keep (fun D _ h2 _ => (Below.heap_setCell _ _ _ _ (fun e => by have e : D = gi := e; rw [e, HBg.out] at h2; cases h2)).trans h2)
      ·have h1 := HG'.out.less hlt Hlen2.out Hval2.out hne
       cases more
       ·rw [(Hdone.out rfl).1] at h1 ⊢;exact h1
       ·exact Nat.lt_trans h1 (Hless.out rfl)
     ·go_wp2;refine HK3.out (f.blocks.length - (b + 1)) _ _ _ (by have := Hgh3.out; omega) ?_ ?_
      ·rfl
      refine ⟨b + 1, more, V', gs', O ++ [S], gso ++ [(g, n)], hlt, rfl, by go_num, rfl, HG', HBIY, HBOY, by rw [List.length_append, HOl.out]; rfl, HbY, hboY, HMY, Hless, lh fun hm => ?_⟩;obtain ⟨h1, h2⟩ := Hdone.out hm;refine ⟨h1, fun j hj hjb r hr => ?_⟩;rw [q8r]
      by_cases hjb2 : j = b
      ·subst hjb2;rw [if_pos HOl.out.symm, <- of_decide_eq_true Hqv.out.symm];refine ⟨(Hval2.out r hr).symm, ?_⟩;have := Hval.out r hr;rw [Hbk.out] at this;exact this
      ·rw [if_neg (by rw [HOl.out]; exact hjb2)];exact h2 j hj (by omega) r hr
   case stop =>
    rintro D c pre W _ _ h _;exact h.elim
end Go.Proofs.YtdanebboiekieaaGreatDoor
