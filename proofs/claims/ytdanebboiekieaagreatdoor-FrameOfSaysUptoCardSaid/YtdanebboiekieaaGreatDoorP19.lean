/- The walks, part 19. -/
import Derived.Test.YtdanebboiekieaaGreatDoorP18
set_option linter.unusedSimpArgs false
set_option linter.unusedVariables false
set_option maxRecDepth 100000
set_option maxHeartbeats 16000000
namespace Go.Proofs.YtdanebboiekieaaGreatDoor
open Go.RowKit Go.Shelf
attribute [local go_sem] Oper.semAt_some
def asksI (pl : List Int) (r : Int) (x : UIns) : List Int :=
 if x.op = 1 ∧ x.a.reg = true then (if x.a.n = r then [iAt pl x.dst.toNat] else []) ++ (if x.dst = r then [iAt pl x.a.n.toNat] else []) else []
def asksJ (pl : List Int) (r : Int) (b : UBlk) : List Int := b.list.flatMap (asksI pl r)
structure WP where
 f : UFun
 pl : List Int
 gv : List Int
 r : Nat
 nm : Value
 clV : Value
 acV : Value
 A : Option Addr
 cb : Nat
 PB : Nat
 Br : Nat
 Bp : Nat
 gp : Nat
 cp : Nat
 gg : Nat
 cg : Nat
 b0 : Nat
 Rc : Nat
 n : Nat
 hlen : pl.length = n
 hx : ∀ b ∈ f.blocks, ∀ x ∈ b.list, x.op = 1 -> x.a.reg = true -> (0 ≤ x.dst ∧ x.dst < (n : Int)) ∧ (0 ≤ x.a.n ∧ x.a.n < (n : Int))
def WP.wishL (P : WP) : List Int := P.f.blocks.flatMap (asksJ P.pl P.r) ++ (if (P.r : Int) < P.f.params then [(P.r : Int)] else []) ++ P.gv
structure WishN (P : WP) (W : World) : Prop where
 rb : W.heap[P.Br]? = some (.cells #[.int .i64 (P.r : Int)] 3 (0, 0))
 pb : W.heap[P.Bp]? = some (.cells #[.pointer (some ⟨P.PB, 0, none⟩)] 93 (0, 0))
 bx : W.heap[P.PB]? = some (.cells #[P.nm, .int .i64 P.f.params, .int .i64 P.f.regs, .slice P.A P.f.blocks.length P.cb, P.clV, P.acV, .slice (some ⟨P.gg, 0, none⟩) P.gv.length P.cg, .slice (some ⟨P.gp, 0, none⟩) P.n P.cp] 96 (0, 0))
 bl : rpBlk.SL W P.b0 P.f.blocks (.slice P.A P.f.blocks.length P.cb)
 pl : IntAt P.gp P.pl W
 gv : IntAt P.gg P.gv W
 ne : P.Br ≠ P.Rc ∧ P.Bp ≠ P.Rc ∧ P.PB ≠ P.Rc ∧ P.gp ≠ P.Rc ∧ P.gg ≠ P.Rc
 le : P.b0 ≤ P.Rc
 lt : P.Rc < W.heap.size
theorem IntAt.keep {g Rc : Nat} {S : List Int} {w w' : World} (h : IntAt g S w) (hk : CKeep Rc w w') (hn : g ≠ Rc) : IntAt g S w' := h.block fun o ho hc => hk.2 _ o ho hc hn
theorem WishN.keep {P : WP} {W W' : World} (h : WishN P W) (hk : CKeep P.Rc W W') : WishN P W' :=
 ⟨hk.blk h.rb h.ne.1, hk.blk h.pb h.ne.2.1, hk.blk h.bx h.ne.2.2.1, h.bl.mono (fun p u hp hc => hk.cell hc (by have := h.le; omega)), h.pl.keep hk h.ne.2.2.2.1, h.gv.keep hk h.ne.2.2.2.2, h.ne, h.le, Nat.lt_of_lt_of_le h.lt hk.1⟩
def WP.wB (P : WP) (b : Nat) : List Int := (P.f.blocks.take b).flatMap (asksJ P.pl P.r)
def WP.wI (P : WP) (b j : Nat) (bk : UBlk) : List Int := P.wB b ++ (bk.list.take j).flatMap (asksI P.pl P.r)
theorem WP.wB_step (P : WP) {b : Nat} (h : b < P.f.blocks.length) : P.wB (b + 1) = P.wI b P.f.blocks[b].list.length P.f.blocks[b] := by
 unfold WP.wB WP.wI WP.wB
 rw [List.take_succ_eq_append_getElem h, List.flatMap_append, List.take_length]
 simp [asksJ]
theorem WP.wI_step (P : WP) {b j : Nat} {bk : UBlk} (h : j < bk.list.length) : P.wI b (j + 1) bk = P.wI b j bk ++ asksI P.pl P.r bk.list[j] := by
 unfold WP.wI
 rw [List.take_succ_eq_append_getElem h, List.flatMap_append]
 simp
theorem q38 {α β : Type} (f : α -> List β) (l : List α) (k : Nat) : (l.take k).flatMap f <+: l.flatMap f := by
 have : l.flatMap f = (l.take k).flatMap f ++ (l.drop k).flatMap f := by rw [<- List.flatMap_append, List.take_append_drop]
 rw [this]
 exact List.prefix_append _ _
theorem WP.wB_pre (P : WP) (b : Nat) : P.wB b <+: P.wishL := by
 unfold WP.wB WP.wishL
 rw [List.append_assoc]
 exact (q38 _ _ _).trans (List.prefix_append _ _)
theorem WP.wI_pre (P : WP) {b : Nat} (j : Nat) (h : b < P.f.blocks.length) : P.wI b j P.f.blocks[b] <+: P.wishL := by
 refine List.IsPrefix.trans ?_ (P.wB_pre (b + 1))
 rw [P.wB_step h]
 unfold WP.wI
 rw [List.take_length]
 exact (List.prefix_append_right_inj _).2 (q38 _ _ _)
theorem WP.wB_end (P : WP) : P.wB P.f.blocks.length = P.f.blocks.flatMap (asksJ P.pl P.r) := by
 unfold WP.wB
 rw [List.take_length]
def WP.wP (P : WP) : List Int := P.wB P.f.blocks.length ++ (if (P.r : Int) < P.f.params then [(P.r : Int)] else [])
theorem WP.wG_pre (P : WP) (k : Nat) : P.wP ++ P.gv.take k <+: P.wishL := by
 unfold WP.wP WP.wishL
 rw [P.wB_end]
 exact (List.prefix_append_right_inj _).2 (List.take_prefix _ _)
theorem WP.wG_end (P : WP) : P.wP ++ P.gv.take P.gv.length = P.wishL := by
 unfold WP.wP WP.wishL
 rw [P.wB_end, List.take_length]
theorem CKeep.drew (g : Nat) (W : World) : CKeep g W W.drew := ⟨Nat.le_refl _, fun _ _ h _ _ => h⟩
end Go.Proofs.YtdanebboiekieaaGreatDoor
namespace Go.Proofs.YtdanebboiekieaaGreatDoor
open Go.RowKit Go.Shelf
attribute [local go_sem] Oper.semAt_some
theorem qeb (N : Nat) (hN1 : 1 ≤ N) (lp : Nat) (P : WP) (n₀ : Nat) (J Jx : List Int -> World -> Prop) (hmx : P.f.blocks.length ≤ maxLen ∧ P.gv.length ≤ maxLen ∧ ∀ b ∈ P.f.blocks, b.list.length ≤ maxLen) (hJ : AbidesFrom n₀ J)
 (hY : ∀ (pre : List Int) (v : Int), pre ++ [v] <+: P.wishL -> ∀ W, J pre W -> YieldAt Fence.wide (N - 1) Tryz.prog lp #[.int .i64 v] W fun e W' => (e = .returned (.bool true) ∧ J (pre ++ [v]) W' ∧ CKeep P.Rc W W') ∨ (e = .returned (.bool false) ∧ Jx (pre ++ [v]) W'))
 (W : World) (hN : WishN P W) (h0 : J [] W) :
 CallsIn Fence.wide N Tryz.prog 104 #[.func (.yield lp) #[] #[], .pointer (some ⟨P.Br, 0, none⟩), .pointer (some ⟨P.Bp, 0, none⟩)] W fun e W' => (∃ v, e = .returned v) ∧
  (J P.wishL W' ∨ (∃ pre : List Int, pre <+: P.wishL ∧ Jx pre W')) := by
 obtain ⟨HY, HJ, HN, H0⟩ := lh4 hY hJ hN h0
 unfold maxLen at hmx
 obtain ⟨hm1, hm2, hm3⟩ := hmx
 clear hY h0 hJ
 have x0 : W.cell? ⟨P.Br, 0, none⟩ = some (.int .i64 (P.r : Int)) := by rw [qe hN.rb]; rfl
 have lx := qc hN.rb
 have W4e : ∃ W4, W4 = W.alloc (Obj.cells #[.bool true, .int .i64 (P.r : Int)] 64) := ⟨_, rfl⟩
 obtain ⟨W4, hW4⟩ := W4e
 have hb4 : Below W.heap.size W W4 := by subst hW4; exact bl0
 have HN4 := lh (hN.keep (CKeep.of_below hb4))
 have HJ4 := lh (qy HJ.out H0.out hb4)
 obtain ⟨B4, hB4⟩ := nmm (W.heap.size)
 have hV4 : W4.heap[B4]? = some (.cells #[.bool true, .int .i64 (P.r : Int)] 64 (0, 0)) := by subst hW4 hB4; exact heap_alloc_new _ _
 have HV4 := lh hV4
 have hB4r : B4 ≠ P.Rc := by have := hN.lt; omega
 have HW4 := lh hW4.symm
 have y0 : W4.cell? ⟨P.Bp, 0, none⟩ = some (.pointer (some ⟨P.PB, 0, none⟩)) := by rw [qe HN4.out.pb]; rfl
 have y1 : W4.cell? ⟨P.PB, 3, none⟩ = some (.slice P.A P.f.blocks.length P.cb) := by rw [qe HN4.out.bx]; rfl
 have ly := qc HN4.out.pb
 have lz := qc HN4.out.bx
 clear hN hb4 hV4 hW4
 refine callsIn_of_wp Tryz.func104 rfl trivial ?_ rfl
 simp only [Tryz.ntmps104, List.size_toArray, List.length_cons, List.length_nil, Nat.reduceAdd, Nat.reduceSub, Array.replicate_succ, Array.replicate_zero, List.push_toArray, List.append_toArray, List.nil_append, List.cons_append]
 gi_upto_region 1 with fail
 rw [HW4.out, <- hB4]
 clear hB4
 gi_wp2
 clear x0 lx y0 y1 ly lz
 gi_loopw [19] (fun i wr => ∃ (b : Nat), b ≤ P.f.blocks.length ∧ i = .int .i64 (b : Int) ∧ Hid (J (P.wB b) wr) ∧ Hid (WishN P wr) ∧ Hid (wr.heap[B4]? = some (.cells #[.bool true, .int .i64 (P.r : Int)] 64 (0, 0))))
  (fun i _ => P.f.blocks.length - (intOf i).toNat)
 case atStart => exact ⟨0, Nat.zero_le _, rfl, HJ4, HN4, HV4⟩
 case round =>
  obtain ⟨b, hb, rfl, HJr, HNr, HVr⟩ := hrel
  by_cases hlt : b < P.f.blocks.length
  ·obtain ⟨b9, off9, vp, vl, vt, hA9, hb9, hp, hl, ht, q0, q1, q2, q3, q4, q5⟩ := HNr.out.bl.blk_at hlt
   obtain ⟨Ap, cp, rfl, _, _, hp⟩ := hp.cases_
   obtain ⟨Al, cl, rfl, hlm, _, hl⟩ := hl.cases_
   obtain ⟨At, ct, rfl, _, _, ht⟩ := ht.cases_
   obtain ⟨F, hF⟩ := q4f hl
   obtain ⟨bk, hbk⟩ : ∃ bk, bk = P.f.blocks[b] := ⟨_, rfl⟩
   have Hbk := lh hbk
   rw [<- hbk] at hF q0 q1 q2 q3 q4 q5 hlm
   have Hm := lh (hm3 bk (by rw [hbk]; exact List.getElem_mem hlt))
   have Hx := lh (P.hx bk (by rw [hbk]; exact List.getElem_mem hlt))
   have HF := lh hF
   have lb9 : b9 < wr.heap.size := World.block_lt_of_cell? wr _ q0
   have k1 := nnn b
   have k2 : (b : Int) < (P.f.blocks.length : Int) := by omega
   obtain ⟨W6, hW6⟩ : ∃ W6, W6 = wr.alloc (Obj.cells #[.slice Ap bk.phis.length cp, .slice Al bk.list.length cl, .int .i64 bk.end_.kind, .bool bk.end_.on.reg, .int .i64 bk.end_.on.n, .slice At bk.end_.to.length ct] 68) := ⟨_, rfl⟩
   have hb6 : Below wr.heap.size wr W6 := by subst hW6; exact bl0
   obtain ⟨BX, hBX⟩ := nmm (wr.heap.size)
   have hX6 : W6.heap[BX]? = some (.cells #[.slice Ap bk.phis.length cp, .slice Al bk.list.length cl, .int .i64 bk.end_.kind, .bool bk.end_.on.reg, .int .i64 bk.end_.on.n, .slice At bk.end_.to.length ct] 68 (0, 0)) := by subst hW6 hBX; exact heap_alloc_new _ _
   have hk6 := CKeep.of_below (g := P.Rc) hb6
   have HN6 := lh (HNr.out.keep hk6)
   have HJ6 : Hid (J (P.wI b 0 bk) W6) := lh (by
    have := qy HJ.out HJr.out hb6
    simpa [WP.wI] using this)
   have HF6 := lh (HF.out.keep hk6 HNr.out.le)
   have HV6 := lh (hk6.blk HVr.out hB4r)
   obtain ⟨x0, x1, x2, x3, x4, x5⟩ := q0o hX6
   have lX := qc hX6
   have HW6 := lh hW6.symm
   have HA9 := lh hA9
   rw [hA9]
   clear hp hl ht hF hbk hb6 hk6 hW6 hX6 HJr HVr
   gi_upto_region 4 with fail
   rw [HW6.out, <- hBX]
   clear q0 q1 q2 q3 q4 q5 lb9 hBX
   gi_wp2
   clear x0 x1 x2 x3 x4 x5 lX
   gi_loopw [26] (fun i wr => ∃ (j : Nat), j ≤ bk.list.length ∧ i = .int .i64 (j : Int) ∧ Hid (J (P.wI b j bk) wr) ∧ Hid (WishN P wr) ∧ Hid (wr.heap[B4]? = some (.cells #[.bool true, .int .i64 (P.r : Int)] 64 (0, 0))) ∧ Hid (InsRow bk.list F P.b0 Al wr))
    (fun i _ => bk.list.length - (intOf i).toNat)
   case atStart => exact ⟨0, Nat.zero_le _, rfl, HJ6, HN6, HV6, HF6⟩
   case round =>
    clear HNr HN6 HJ6 HF6 HV6
    obtain ⟨j, hj, rfl, HJr, HNr, HVr, HFr⟩ := hrel
    by_cases hltj : j < bk.list.length
    ·obtain ⟨ba, oa, hAl, hba, hva, i0, i1, i2, i3, i4, i5, i6, i7⟩ := HFr.out j hltj
     obtain ⟨x, hxe⟩ : ∃ x, x = bk.list[j] := ⟨_, rfl⟩
     have Hst : Hid (P.wI b (j + 1) bk = P.wI b j bk ++ asksI P.pl P.r x) := lh (by rw [P.wI_step hltj, hxe])
     have Hpr : Hid (P.wI b j bk ++ asksI P.pl P.r x <+: P.wishL) := lh (by
      have := P.wI_pre (j + 1) hlt
      rw [<- Hbk.out, Hst.out] at this
      exact this)
     have Hxx := lh (Hx.out x (by rw [hxe]; exact List.getElem_mem hltj))
     obtain ⟨Aa, ca, hFj, _, _, _⟩ := hva.cases_
     rw [hFj] at i7
     rw [<- hxe] at i0 i1 i2 i3 i4 i5 i6 i7
     have lba : ba < wr.heap.size := World.block_lt_of_cell? wr _ i0
     have j1 := nnn j
     have j2 : (j : Int) < (bk.list.length : Int) := by omega
     obtain ⟨W8, hW8⟩ : ∃ W8, W8 = wr.alloc (Obj.cells #[.int .i64 x.op, .int .i64 x.dst, .bool x.a.reg, .int .i64 x.a.n, .bool x.b.reg, .int .i64 x.b.n, .int .i64 x.fn, .slice Aa x.args.length ca] 71) := ⟨_, rfl⟩
     have hb8 : Below wr.heap.size wr W8 := by subst hW8; exact bl0
     obtain ⟨B8, hB8⟩ := nmm (wr.heap.size)
     have hX8 : W8.heap[B8]? = some (.cells #[.int .i64 x.op, .int .i64 x.dst, .bool x.a.reg, .int .i64 x.a.n, .bool x.b.reg, .int .i64 x.b.n, .int .i64 x.fn, .slice Aa x.args.length ca] 71 (0, 0)) := by subst hW8 hB8; exact heap_alloc_new _ _
     have hk8 := CKeep.of_below (g := P.Rc) hb8
     have HN8 := lh (HNr.out.keep hk8)
     have HJ8 : Hid (J (P.wI b j bk) W8) := lh (qy HJ.out HJr.out hb8)
     have HF8 : Hid (InsRow bk.list F P.b0 (some ⟨ba, oa, none⟩) W8) := lh (by rw [<- hAl]; exact HFr.out.keep hk8 HNr.out.le)
     have HV8 := lh (hk8.blk HVr.out hB4r)
     have hB8r : B8 ≠ P.Rc := by have := HNr.out.lt; omega
     have HX8 := lh hX8
     have HW8 := lh hW8.symm
     rw [hAl]
     clear hb8 hk8 hW8 hX8 HJr HVr hva hxe
     gi_upto_region 7 with fail
     rw [HW8.out, <- hB8]
     clear i0 i1 i2 i3 i4 i5 i6 i7 lba hB8
     have c0 : W8.cell? ⟨B8, 0, none⟩ = some (.int .i64 x.op) := cqq HX8.out
     have c2 : W8.cell? ⟨B8, 2, none⟩ = some (.bool x.a.reg) := cqq HX8.out
     have lX := qc HX8.out
     by_cases h1 : x.op = 1
     ·by_cases h2 : x.a.reg = true
      ·have hd := (Hxx.out h1 h2).1
       have ha := (Hxx.out h1 h2).2
       rw [h1] at c0
       rw [h2] at c2
       gi_upto_region 8 with fail
       obtain ⟨C, hC⟩ : ∃ C : WC, C = ⟨x, .slice Aa x.args.length ca, P.r, P.n, P.gp, P.cp, P.Br, P.Bp, P.PB, B4, B8, P.Rc, lp, 0, P.pl, P.wI b j bk, J, Jx,
        fun w => WishN P w ∧ w.heap[B4]? = some (.cells #[.bool true, .int .i64 (P.r : Int)] 64 (0, 0)) ∧ w.heap[B8]? = some (.cells #[.int .i64 x.op, .int .i64 x.dst, .bool x.a.reg, .int .i64 x.a.n, .bool x.b.reg, .int .i64 x.b.n, .int .i64 x.fn, .slice Aa x.args.length ca] 71 (0, 0)) ∧ InsRow bk.list F P.b0 (some ⟨ba, oa, none⟩) w,
        P.hlen, h2, hd, ha, fun w h => ⟨by rw [qe h.1.rb]; rfl, by rw [qe h.1.pb]; rfl, by rw [qe h.1.bx]; rfl, h.2.2.1, h.2.1, h.1.pl⟩, fun w w' h hk => ⟨h.1.keep hk, hk.blk h.2.1 hB4r, hk.blk h.2.2.1 hB8r, h.2.2.2.keep hk h.1.le⟩⟩ := ⟨_, rfl⟩
       have Cq : asksI P.pl P.r x = C.q1 ++ C.q2 := by
        subst hC
        simp [asksI, h1, h2, WC.q1, WC.q2, WC.B1, WC.B2, WC.p1, WC.p2]
       have HC := lh hC
       have Hst2 : Hid (P.wI b (j + 1) bk = C.ys ++ C.q1 ++ C.q2) := lh (by rw [Hst.out, Cq, List.append_assoc, hC])
       have Hpr2 : Hid (C.ys ++ C.q1 ++ C.q2 <+: P.wishL) := lh (by
        have := Hpr.out
        rw [Cq, <- List.append_assoc] at this
        rw [hC] at this ⊢
        exact this)
       clear Cq
       gi_cut [75] from 105 (fun s75 wx => (s75 = .bool false ∧ Hid (C.Need wx) ∧ Hid (C.J (C.ys ++ C.q1 ++ C.q2) wx)) ∨ (s75 = .bool true ∧ ∃ zs, Hid (zs <+: C.ys ++ C.q1 ++ C.q2) ∧ Hid (C.Jx zs wx)))
       case first =>
        rename_i K1 K2 hJ1 hK1
        refine qgv (C := C) (by kernel_rfl) ⟨rfl, by decide +kernel, ⟨_, rfl, rfl, rfl, rfl, by decide +kernel⟩, ⟨_, rfl, rfl, rfl, rfl, by decide +kernel⟩, ⟨_, rfl, rfl, rfl, rfl, by decide +kernel⟩, ⟨_, rfl, rfl, rfl, rfl, by decide +kernel⟩, ⟨_, rfl, rfl, rfl, rfl, by decide +kernel⟩, ⟨_, rfl, rfl, rfl, rfl, by decide +kernel⟩, ⟨_, rfl, rfl, rfl, rfl, by decide +kernel⟩, ⟨_, rfl, rfl, rfl, rfl, by decide +kernel⟩, ⟨_, rfl, rfl, rfl, rfl, by decide +kernel⟩, ⟨_, rfl, rfl, rfl, rfl, by decide +kernel⟩, ⟨_, rfl, rfl, rfl, rfl, by decide +kernel⟩, ⟨_, rfl, rfl, rfl, rfl, by decide +kernel⟩, ⟨_, rfl, rfl, rfl, rfl, by decide +kernel⟩, ⟨_, rfl, rfl, rfl, rfl, by decide +kernel⟩, ⟨_, rfl, rfl, rfl, rfl, by decide +kernel⟩, ⟨_, rfl, rfl, rfl, rfl, by decide +kernel⟩, ⟨_, rfl, rfl, rfl, rfl, by decide +kernel⟩, ⟨_, rfl, rfl, rfl, rfl, by decide +kernel⟩, ⟨_, rfl, rfl, rfl, rfl, by decide +kernel⟩, ⟨_, rfl, rfl, rfl, rfl, by decide +kernel⟩, ⟨_, rfl, rfl, rfl, rfl, by decide +kernel⟩, ⟨_, rfl, rfl, rfl, rfl, by decide +kernel⟩, ⟨_, rfl, rfl, rfl, rfl, by decide +kernel⟩, ⟨_, rfl, rfl, rfl, rfl, by decide +kernel⟩, ⟨_, rfl, rfl, rfl, rfl, by decide +kernel⟩, ⟨_, rfl, rfl, rfl, rfl, by decide +kernel⟩, ⟨_, rfl, rfl, rfl, rfl, by decide +kernel⟩, ⟨_, rfl, rfl, rfl, rfl, by decide +kernel⟩, ⟨_, rfl, rfl, rfl, rfl, by decide +kernel⟩, ⟨_, rfl, rfl, rfl, rfl, by decide +kernel⟩, ⟨_, rfl, rfl, rfl, rfl, by decide +kernel⟩, ⟨_, rfl, rfl, rfl, rfl, by decide +kernel⟩, ⟨_, rfl, rfl, rfl, rfl, by decide +kernel⟩, ⟨_, rfl, rfl, rfl, rfl, by decide +kernel⟩, ⟨_, rfl, rfl, rfl, rfl, by decide +kernel⟩, ⟨_, rfl, rfl, rfl, rfl, by decide +kernel⟩, ⟨_, rfl, rfl, rfl, rfl, by decide +kernel⟩⟩ (by simp [WIS]) ?act ?need ?start ?y1 ?y2 ?fin
        case act => subst hC; exact ⟨rfl, rfl, rfl, rfl, rfl⟩
        case need => subst hC; exact ⟨HN8.out.keep (CKeep.drew _ _), HV8.out, HX8.out, HF8.out.keep (CKeep.drew _ _) HN8.out.le⟩
        case start => subst hC; exact qy HJ.out HJ8.out (Below.refl _ _).drew
        case y1 =>
         intro hB
         have hq : C.q1 = [C.p1] := if_pos hB
         have hp1 : C.ys ++ [C.p1] <+: P.wishL := by
          refine List.IsPrefix.trans ?_ Hpr2.out
          rw [hq]
          exact List.prefix_append _ _
         subst hC
         exact HY.out _ _ hp1
        case y2 =>
         intro hB
         have hq : C.q2 = [C.p2] := if_pos hB
         have hp1 : C.ys ++ C.q1 ++ [C.p2] <+: P.wishL := by
          refine List.IsPrefix.trans ?_ Hpr2.out
          rw [hq]
          exact List.prefix_refl _
         subst hC
         exact HY.out _ _ hp1
        case fin =>
         intro vs w' hold hres
         simp only [WIS, List.map_cons, List.map_nil, over, List.foldl_cons, List.foldl_nil, Act.put]
         refine hK1 _ _ (Met.intro (hJ1 _ _ ?_))
         repeat apply Exists.intro
         refine ⟨?rel, by simp; (repeat refine ⟨rfl, ?_⟩); rfl⟩
         rcases hres with ⟨h75, hn, hj⟩ | ⟨h75, zs, hz, hx⟩
         ·exact .inl ⟨h75, lh hn, lh hj⟩
         ·exact .inr ⟨h75, zs, lh hz, lh hx⟩
       case rest =>
        rcases hcut with ⟨rfl, hn, hj⟩ | ⟨rfl, zs, hz, hx⟩
        ·have HJ9 : Hid (J (P.wI b (j + 1) bk) wc) := lh (by
          have := hj.out
          rw [<- Hst2.out, HC.out] at this
          exact this)
         have hn9 : WishN P wc ∧ wc.heap[B4]? = some (.cells #[.bool true, .int .i64 (P.r : Int)] 64 (0, 0)) ∧ wc.heap[B8]? = some (.cells #[.int .i64 x.op, .int .i64 x.dst, .bool x.a.reg, .int .i64 x.a.n, .bool x.b.reg, .int .i64 x.b.n, .int .i64 x.fn, .slice Aa x.args.length ca] 71 (0, 0)) ∧ InsRow bk.list F P.b0 (some ⟨ba, oa, none⟩) wc := by
          have := hn.out
          rw [HC.out] at this
          exact this
         have HN9 := lh hn9.1
         have HV9 := lh hn9.2.1
         have HF9 := lh hn9.2.2.2
         clear hn9 hC
         gi_wp2
         go_roundw
         case rel => exact ⟨j + 1, by omega, by go_num, HJ9, HN9, HV9, HF9⟩
         case measure => simp [intOf] <;> omega
        ·have hx9 : Jx zs wc := by
          have := hx.out
          rw [HC.out] at this
          exact this
         have hz9 : zs <+: P.wishL := hz.out.trans Hpr2.out
         obtain ⟨Hx9, Hz9⟩ := lh2 hx9 hz9
         clear hx9 hz9 hC
         gi_wp2
         refine bodyPost_ret (results_none rfl _ _ _) rfl ?_
         exact ⟨⟨_, rfl⟩, .inr ⟨zs, Hz9.out, Hx9.out⟩⟩
      ·have h2 : x.a.reg = false := by simpa using h2
       have h3 : asksI P.pl P.r x = [] := by simp [asksI, h2]
       have Hst2 : Hid (P.wI b (j + 1) bk = P.wI b j bk) := lh (by rw [Hst.out, h3, List.append_nil])
       rw [h1] at c0
       rw [h2] at c2
       gi_wp2
       go_roundw
       case rel => exact ⟨j + 1, by omega, by go_num, lh (by rw [Hst2.out]; exact HJ8.out), HN8, HV8, HF8⟩
       case measure => simp [intOf] <;> omega
     ·have h3 : asksI P.pl P.r x = [] := by simp [asksI, h1]
      have Hst2 : Hid (P.wI b (j + 1) bk = P.wI b j bk) := lh (by rw [Hst.out, h3, List.append_nil])
      gi_wp2
      go_roundw
      case rel => exact ⟨j + 1, by omega, by go_num, lh (by rw [Hst2.out]; exact HJ8.out), HN8, HV8, HF8⟩
      case measure => simp [intOf] <;> omega
    ·have hje : j = bk.list.length := by omega
     subst hje
     have j3 : ¬ ((bk.list.length : Int) < (bk.list.length : Int)) := by omega
     have Hst : Hid (P.wB (b + 1) = P.wI b bk.list.length bk) := lh (by rw [P.wB_step hlt, <- Hbk.out])
     gi_wp2
     go_roundw
     case rel => exact ⟨b + 1, by omega, by go_num, lh (by rw [Hst.out]; exact HJr.out), HNr, HVr⟩
     case measure => simp [intOf] <;> omega
  ·have hbe : b = P.f.blocks.length := by omega
   subst hbe
   have k3 : ¬ ((P.f.blocks.length : Int) < (P.f.blocks.length : Int)) := by omega
   clear HN4 HJ4 HV4 HVr
   gi_upto_region 11 with fail
   obtain ⟨C, hC⟩ : ∃ C : VC, C = ⟨P.r, P.f.params, P.PB, P.Br, P.Bp, P.Rc, lp, P.wB P.f.blocks.length, J, Jx, WishN P,
    fun w h => ⟨by rw [qe h.rb]; rfl, by rw [qe h.pb]; rfl, by rw [qe h.bx]; rfl⟩, fun w w' h hk => h.keep hk⟩ := ⟨_, rfl⟩
   have HC := lh hC
   have Hq : Hid (C.ys ++ C.q = P.wP) := lh (by
    subst hC
    simp [WP.wP, VC.q, VC.B])
   have Hpr : Hid (P.wP <+: P.wishL) := lh (by
    have := P.wG_pre 0
    simpa using this)
   gi_cut [90] from 105 (fun s90 wx => (s90 = .bool false ∧ Hid (WishN P wx) ∧ Hid (J P.wP wx)) ∨ (s90 = .bool true ∧ ∃ zs, Hid (zs <+: P.wishL) ∧ Hid (Jx zs wx)))
   case first =>
    rename_i K1 K2 hJ1 hK1
    refine qe8 (C := C) (by kernel_rfl) ⟨rfl, by decide +kernel, ⟨_, rfl, rfl, rfl, rfl, by decide +kernel⟩, ⟨_, rfl, rfl, rfl, rfl, by decide +kernel⟩, ⟨_, rfl, rfl, rfl, rfl, by decide +kernel⟩, ⟨_, rfl, rfl, rfl, rfl, by decide +kernel⟩, ⟨_, rfl, rfl, rfl, rfl, by decide +kernel⟩, ⟨_, rfl, rfl, rfl, rfl, by decide +kernel⟩, ⟨_, rfl, rfl, rfl, rfl, by decide +kernel⟩, ⟨_, rfl, rfl, rfl, rfl, by decide +kernel⟩, ⟨_, rfl, rfl, rfl, rfl, by decide +kernel⟩, ⟨_, rfl, rfl, rfl, rfl, by decide +kernel⟩, ⟨_, rfl, rfl, rfl, rfl, by decide +kernel⟩, ⟨_, rfl, rfl, rfl, rfl, by decide +kernel⟩, ⟨_, rfl, rfl, rfl, rfl, by decide +kernel⟩⟩ (by simp [VIS]) ?act ?need ?start ?y1 ?fin
    case act => subst hC; exact ⟨rfl, rfl, rfl⟩
    case need => subst hC; exact HNr.out.keep (CKeep.drew _ _)
    case start => subst hC; exact qy HJ.out HJr.out (Below.refl _ _).drew
    case y1 =>
     intro hB
     have hq : C.q = [(C.r : Int)] := if_pos hB
     have hp1 : C.ys ++ [(C.r : Int)] <+: P.wishL := by
      have := Hq.out
      rw [hq] at this
      rw [this]
      exact Hpr.out
     subst hC
     exact HY.out _ _ hp1
    case fin =>
     intro vs w' hold hres
     simp only [VIS, List.map_cons, List.map_nil, over, List.foldl_cons, List.foldl_nil, Act.put]
     refine hK1 _ _ (Met.intro (hJ1 _ _ ?_))
     repeat apply Exists.intro
     refine ⟨?relB, by simp; (repeat refine ⟨rfl, ?_⟩); rfl⟩
     rw [Hq.out] at hres
     rcases hres with ⟨h75, hn, hj⟩ | ⟨h75, zs, hz, hx⟩
     ·refine .inl ⟨h75, lh ?_, lh ?_⟩
      ·rw [hC] at hn; exact hn
      ·rw [hC] at hj; exact hj
     ·refine .inr ⟨h75, zs, lh (hz.trans Hpr.out), lh ?_⟩
      rw [hC] at hx; exact hx
   case rest =>
    clear HNr HJr HC Hq
    rcases hcut with ⟨rfl, hn, hj⟩ | ⟨rfl, zs, hz, hx⟩
    ·clear hC
     have y0 : wc.cell? ⟨P.Bp, 0, none⟩ = some (.pointer (some ⟨P.PB, 0, none⟩)) := by rw [qe hn.out.pb]; rfl
     have y1 : wc.cell? ⟨P.PB, 6, none⟩ = some (.slice (some ⟨P.gg, 0, none⟩) P.gv.length P.cg) := by rw [qe hn.out.bx]; rfl
     have ly := qc hn.out.pb
     have lz := qc hn.out.bx
     gi_wp2
     clear y0 y1 ly lz
     gi_loopw [96] (fun i wr => ∃ (k : Nat), k ≤ P.gv.length ∧ i = .int .i64 (k : Int) ∧ Hid (J (P.wP ++ P.gv.take k) wr) ∧ Hid (WishN P wr))
      (fun i _ => P.gv.length - (intOf i).toNat)
     case atStart => exact ⟨0, Nat.zero_le _, rfl, lh (by rw [List.take_zero, List.append_nil]; exact hj.out), hn⟩
     case round =>
      clear hj hn
      obtain ⟨k, hk, rfl, HJr, HNr⟩ := hrel
      by_cases hltk : k < P.gv.length
      ·have i0 := HNr.out.gv.cell hltk
       obtain ⟨v, hv⟩ := nmm (iAt P.gv k)
       rw [<- hv] at i0
       have hst : P.wP ++ P.gv.take (k + 1) = P.wP ++ P.gv.take k ++ [v] := by
        rw [hv, List.take_succ_eq_append_getElem hltk, List.append_assoc]
        unfold iAt
        rw [List.getD_eq_getElem?_getD, List.getElem?_eq_getElem hltk]
        rfl
       have hp1 : P.wP ++ P.gv.take k ++ [v] <+: P.wishL := by
        rw [<- hst]
        exact P.wG_pre _
       obtain ⟨Hst, Hp1⟩ := lh2 hst hp1
       have lg := HNr.out.gv.lt
       have k1 := nnn k
       have k2 : (k : Int) < (P.gv.length : Int) := by omega
       obtain ⟨fn5, tmps5, assign5, body5, hy5, hR5⟩ := HY.out _ v hp1 wr HJr.out
       have HR5 := lh hR5
       clear hR5 hst hp1 hv
       gi_wp2
       refine HR5.out.mono ?_
       rintro e W6 (⟨rfl, hJ6, hk6⟩ | ⟨rfl, hx6⟩)
       ·have HN6 := lh (HNr.out.keep hk6)
        have HJ6 : Hid (J (P.wP ++ P.gv.take (k + 1)) W6) := lh (by rw [Hst.out]; exact hJ6)
        clear hJ6 hk6 i0 lg
        gi_wp2
        go_roundw
        case rel => exact ⟨k + 1, by omega, by go_num, HJ6, HN6⟩
        case measure => simp [intOf] <;> omega
       ·have Hx6 := lh hx6
        gi_wp2
        refine bodyPost_ret (results_none rfl _ _ _) rfl ?_
        exact ⟨⟨_, rfl⟩, .inr ⟨_, Hp1.out, Hx6.out⟩⟩
      ·have hke : k = P.gv.length := by omega
       subst hke
       have k3 : ¬ ((P.gv.length : Int) < (P.gv.length : Int)) := by omega
       have HJe : Hid (J P.wishL wr) := lh (by rw [<- P.wG_end]; exact HJr.out)
       gi_wp2
       go_end0
       exact ⟨⟨_, rfl⟩, .inl HJe.out⟩
    ·clear hC
     gi_wp2
     refine bodyPost_ret (results_none rfl _ _ _) rfl ?_
     exact ⟨⟨_, rfl⟩, .inr ⟨zs, hz.out, hx.out⟩⟩
theorem q93 (N : Nat) (hN1 : 1 ≤ N) (P : WP) (hmx : P.f.blocks.length ≤ maxLen ∧ P.gv.length ≤ maxLen ∧ ∀ b ∈ P.f.blocks, b.list.length ≤ maxLen) (w : World) (hN : WishN P w) :
 SeqStopsK Fence.wide N Tryz.prog 104 #[.pointer (some ⟨P.Br, 0, none⟩), .pointer (some ⟨P.Bp, 0, none⟩)] (fun v : Int => #[.int .i64 v]) (CKeep P.Rc) (fun ys => ys = P.wishL) (fun ys => ys <+: P.wishL) P.wishL.length w := fun lp J Jx W hW hJ hJx hY h0 => by
 refine (qeb N hN1 lp P _ J Jx hmx hJ (fun pre v hp W1 hJ1 => hY pre v W1 hJ1 ?_) W (hN.keep (CKeep.of_below hW)) h0).mono ?_
 ·have := hp.length_le
  simp at this
  omega
 ·rintro e W' ⟨h1, h2 | ⟨pre, h3, h4⟩⟩
  ·exact ⟨h1, .inl ⟨_, rfl, h2⟩⟩
  ·exact ⟨h1, .inr ⟨pre, h3, h4⟩⟩
end Go.Proofs.YtdanebboiekieaaGreatDoor
namespace Go.Proofs.YtdanebboiekieaaGreatDoor
open Go.RowKit
structure PW where
 f : UFun
 rows : List (List Int)
 acl : List Int
 gv : List Int
 pl : List Int
 nm : Value
 A : Option Addr
 cA : Option Addr
 aA : Option Addr
 cb : Nat
 cc : Nat
 ac : Nat
 cg : Nat
 cp : Nat
 PB : Nat
 gp : Nat
 gg : Nat
 n : Nat
 b0 : Nat
 hpl : pl.length = n
 hrow : ∀ row ∈ rows, ∀ o ∈ row, 0 ≤ o ∧ o < (n : Int)
structure PaintN (P : PW) (W : World) : Prop where
 bx : W.heap[P.PB]? = some (.cells #[P.nm, .int .i64 P.f.params, .int .i64 P.f.regs, .slice P.A P.f.blocks.length P.cb, .slice P.cA P.rows.length P.cc, .slice P.aA P.acl.length P.ac, .slice (some ⟨P.gg, 0, none⟩) P.gv.length P.cg, .slice (some ⟨P.gp, 0, none⟩) P.n P.cp] 96 (0, 0))
 cl : rpInt.slice.SL W P.b0 P.rows (.slice P.cA P.rows.length P.cc)
 ac : rpInt.SL W P.b0 P.acl (.slice P.aA P.acl.length P.ac)
 bl : rpBlk.SL W P.b0 P.f.blocks (.slice P.A P.f.blocks.length P.cb)
 pl : IntAt P.gp P.pl W
 gv : IntAt P.gg P.gv W
 mg : P.gv.length ≤ maxLen ∧ P.gv.length ≤ P.cg
 le : P.b0 ≤ W.heap.size
theorem PaintN.below {P : PW} {W W' : World} (h : PaintN P W) (hb : Below W.heap.size W W') : PaintN P W' :=
 ⟨(hb.block _ (qc h.bx)).trans h.bx, h.cl.up (hb.mono h.le) (Nat.le_refl _), h.ac.up (hb.mono h.le) (Nat.le_refl _), h.bl.up (hb.mono h.le) (Nat.le_refl _), h.pl.below hb, h.gv.below hb, h.mg, Nat.le_trans h.le hb.size⟩
def q8i (row pl : List Int) (p : Int) : Bool := row.any fun o => decide (iAt pl o.toNat = p)
theorem qaq (P : PW) (Bp Bt : Nat) (p o : Int) (w : World) (hN : PaintN P w) (hp : w.heap[Bp]? = some (.cells #[.pointer (some ⟨P.PB, 0, none⟩)] 93 (0, 0))) (ht : w.heap[Bt]? = some (.cells #[.int .i64 p] 3 (0, 0))) (ho : 0 ≤ o ∧ o < (P.n : Int)) (R : Ending -> World -> Prop)
 (hR : ∀ w', Below w.heap.size w w' -> R (.returned (.bool (decide (iAt P.pl o.toNat = p)))) w') :
 Calls Tryz.prog 106 #[.int .i64 o, .pointer (some ⟨Bp, 0, none⟩), .pointer (some ⟨Bt, 0, none⟩)] w R := by
 have HR := lh hR
 obtain ⟨k, rfl⟩ : ∃ k : Nat, o = (k : Int) := ⟨o.toNat, by omega⟩
 have hk : k < P.n := by omega
 rw [Int.toNat_natCast] at HR
 have c0 := hN.pl.cell (k := k) (by rw [P.hpl]; exact hk)
 have lg := hN.pl.lt
 have x0 : w.cell? ⟨Bp, 0, none⟩ = some (.pointer (some ⟨P.PB, 0, none⟩)) := cqq hp
 have x1 : w.cell? ⟨Bt, 0, none⟩ = some (.int .i64 p) := cqq ht
 have x2 : w.cell? ⟨P.PB, 7, none⟩ = some (.slice (some ⟨P.gp, 0, none⟩) P.n P.cp) := by rw [qe hN.bx]; rfl
 have l0 := qc hp
 have l1 := qc ht
 have l2 := qc hN.bx
 have k1 := nnn k
 have k2 : (k : Int) < (P.n : Int) := by omega
 generalize iAt P.pl k = q at *
 clear hR hN hp ht ho
 go_enter Tryz.func106, Tryz.ntmps106
 go_wp2
 go_quiet (fail)
 all_goals (go_wp2; exact HR.out _ bl0)
theorem q3e {α : Type} {r : Rp α} {w : World} {B : Nat} {xs : List (List α)} {A : Option Addr} {n c k : Nat} (h : r.slice.SL w B xs (.slice A n c)) (hk : k < xs.length) : ∃ b off u, A = some ⟨b, off, none⟩ ∧ b < B ∧ w.cell? ⟨b, off + k, none⟩ = some u ∧ r.SL w B xs[k] u := by
 obtain ⟨b, off, cs, hA, hb, ⟨u, rfl, hr⟩, hcs⟩ := h.at_ (List.getElem?_eq_getElem hk)
 refine ⟨b, off, u, hA, hb, ?_, hr⟩
 have := hcs 0 _ rfl
 simpa [Rp.slice] using this
theorem qbe (Bp Bt : Nat) (xs : List Int) (p : Int -> Bool) (v : Value) (w : World) (h : rpInt.SL w w.heap.size xs v)
 (hcl : ∀ (a : Int) w1, a ∈ xs -> Below w.heap.size w w1 -> ∀ R : Ending -> World -> Prop, (∀ w2, Below w1.heap.size w1 w2 -> R (.returned (.bool (p a))) w2) -> Calls Tryz.prog 106 #[.int .i64 a, .pointer (some ⟨Bp, 0, none⟩), .pointer (some ⟨Bt, 0, none⟩)] w1 R) (R : Ending -> World -> Prop)
 (hR : ∀ w' r, Below w.heap.size w w' -> (decide ((0 : Int) ≤ r) = xs.any p) -> R (.returned (.int .i64 r)) w') :
 Calls Tryz.prog 133 #[v, .func (.func 106) #[] #[.pointer (some ⟨Bp, 0, none⟩), .pointer (some ⟨Bt, 0, none⟩)]] w R := by
 obtain ⟨A, c, rfl, hm, hcap, hs⟩ := h.cases_
 obtain ⟨Hs, HR, Hcl⟩ := lh3 hs hR hcl
 clear hR h hs hcl
 go_enter Tryz.func133, Tryz.ntmps133
 go_wp2
 go_loopg [5, 8] xs.length (fun g j i wr => ∃ k : Nat, k ≤ xs.length ∧ g = xs.length - k ∧ i = .int .i64 k ∧ (xs.take k).any p = false ∧ Below w.heap.size w wr)
 case atStart => exact ⟨0, Nat.zero_le _, rfl, rfl, rfl, Below.refl _ _⟩
 case round =>
  obtain ⟨k, hk, rfl, rfl, ht, hbel⟩ := hrel
  obtain ⟨Ht, Hb⟩ := lh2 ht hbel
  have hz := hbel.size
  clear ht
  by_cases hlt : k < xs.length
  ·obtain ⟨b, off, rfl, hb, q0⟩ := Hs.out.int_at hlt
   have p0 := (hbel.cell (p := ⟨b, off + k, none⟩) hb).trans q0
   have lb : b < wr.heap.size := by omega
   have Hst : Hid ((xs.take (k + 1)).any p = p (xs.getD k 0)) := lh (by
    rw [q2r p hlt, Ht.out, Bool.false_or, List.getD_eq_getElem?_getD, List.getElem?_eq_getElem hlt]
    rfl)
   have hmem : xs.getD k 0 ∈ xs := by
    rw [List.getD_eq_getElem?_getD, List.getElem?_eq_getElem hlt]
    exact List.getElem_mem hlt
   have Hof : Hid (p (xs.getD k 0) = true -> xs.any p = true) := lh fun h => List.any_eq_true.2 ⟨_, hmem, h⟩
   have Hcall := lh (Hcl.out (xs.getD k 0) wr hmem hbel)
   have i1 := nnn k
   have i2 : (k : Int) < (xs.length : Int) := by omega
   generalize xs.getD k 0 = a at *
   clear q0 hbel hmem
   go_wp2_with fail
   refine Hcall.out _ (fun w1 hb1 => ?_)
   have Hb2 := btt Hb hb1 hz
   clear hb1 Hcall
   generalize hx : p a = x at *
   have Hx := lh hx
   clear hx
   cases x
   ·go_wp2
    go_roundg (xs.length - (k + 1))
    case measure => omega
    case rel => exact ⟨k + 1, hlt, rfl, by go_num, Hst.out, Hb2.out⟩
   ·have hfin := lh (HR.out _ (k : Int) Hb2.out (by rw [Hof.out rfl]; exact decide_eq_true i1))
    go_wp2
    exact hfin.out
  ·obtain rfl : k = xs.length := by omega
   rw [List.take_length] at Ht
   have hfin := lh (HR.out _ (-1) hbel (by rw [Ht.out]; rfl))
   clear hbel
   go_wp2
   exact hfin.out
theorem q9w (Bp Bt : Nat) (xs : List Int) (p : Int -> Bool) (v : Value) (w : World) (h : rpInt.SL w w.heap.size xs v)
 (hcl : ∀ (a : Int) w1, a ∈ xs -> Below w.heap.size w w1 -> ∀ R : Ending -> World -> Prop, (∀ w2, Below w1.heap.size w1 w2 -> R (.returned (.bool (p a))) w2) -> Calls Tryz.prog 106 #[.int .i64 a, .pointer (some ⟨Bp, 0, none⟩), .pointer (some ⟨Bt, 0, none⟩)] w1 R) (R : Ending -> World -> Prop)
 (hR : ∀ w', Below w.heap.size w w' -> R (.returned (.bool (xs.any p))) w') :
 Calls Tryz.prog 105 #[v, .func (.func 106) #[] #[.pointer (some ⟨Bp, 0, none⟩), .pointer (some ⟨Bt, 0, none⟩)]] w R := by
 obtain ⟨HR, Hcl⟩ := lh2 hR hcl
 clear hR hcl
 go_enter Tryz.func105, Tryz.ntmps105
 go_wp2_with fail
 refine qbe Bp Bt xs p v _ h (fun a w1 ha hb => Hcl.out a w1 ha hb) _ (fun w1 r hb1 hr => ?_)
 have Hf := lh (HR.out _ hb1)
 have Hr := lh hr
 clear hr hb1 h
 go_wp2
 rw [Hr.out]
 exact Hf.out
theorem q7r (P : PW) (p : Int) (r : Nat) (hr : r < P.rows.length) (w : World) (hN : PaintN P w) (R : Ending -> World -> Prop)
 (hR : ∀ w', Below w.heap.size w w' -> R (.returned (.bool (q8i P.rows[r] P.pl p))) w') :
 Calls Tryz.prog 83 #[.pointer (some ⟨P.PB, 0, none⟩), .int .i64 (r : Int), .int .i64 p] w R := by
 obtain ⟨HR, HN⟩ := lh2 hR hN
 obtain ⟨b, off, u, hA, hb, q, hu⟩ := q3e hN.cl hr
 obtain ⟨A3, c3, rfl, hmx3, hcap3, hs3⟩ := hu.cases_
 have Hu := lh hu
 have hle := hN.le
 obtain ⟨W2, hW2, hb2, h1, h2⟩ := box2 w (.cells #[.pointer (some ⟨P.PB, 0, none⟩)] 93) (.cells #[.int .i64 p] 3) rfl
 obtain ⟨H1, H2, Hb2⟩ := lh3 h1 h2 hb2
 have HN2 := lh (hN.below hb2)
 have Hrow := lh (P.hrow P.rows[r] (List.getElem_mem hr))
 have HW2 := lh hW2.symm
 have hz := hb2.size
 have q2 := (hb2.cell (p := ⟨b, off + r, none⟩) (show b < w.heap.size by omega)).trans q
 have lb : b < W2.heap.size := by omega
 have x0 : W2.cell? ⟨w.heap.size, 0, none⟩ = some (.pointer (some ⟨P.PB, 0, none⟩)) := cqq h1
 have x2 : W2.cell? ⟨P.PB, 4, none⟩ = some (.slice P.cA P.rows.length P.cc) := by rw [qe HN2.out.bx]; rfl
 have l0 := qc h1
 have l2 := qc HN2.out.bx
 have k1 := nnn r
 have k2 : (r : Int) < (P.rows.length : Int) := by omega
 rw [hA] at x2
 generalize P.rows[r] = row at *
 clear hR hN hu hs3 hb2 hW2 h1 h2 q hA
 go_enter Tryz.func83, Tryz.ntmps83
 go_upto_region 1 with fail
 rw [HW2.out]
 go_wp2_with fail
 refine q9w _ _ row (fun o => decide (iAt P.pl o.toNat = p)) _ _ (Hu.out.up (Hb2.out.mono hle) (by omega)) (fun o w3 ho hb3 R2 hR2 => ?_) _ (fun w3 hb3 => ?_)
 ·exact qaq P _ _ p o w3 (HN2.out.below hb3) ((hb3.block _ (qc H1.out)).trans H1.out) ((hb3.block _ (qc H2.out)).trans H2.out) (Hrow.out o ho) R2 hR2
 ·have Hfin := lh (HR.out w3 (Hb2.out.trans (hb3.mono hz)))
  unfold q8i at Hfin
  generalize (row.any fun o => decide (iAt P.pl o.toNat = p)) = d at *
  clear hb3
  go_wp2
  exact Hfin.out
theorem q9i (v : Value) (xs : List Int) (t : Int) (w : World) (h : rpInt.SL w w.heap.size xs v) (R : Ending -> World -> Prop)
 (hin : ∀ k : Nat, k < xs.length -> xs.getD k 0 = t -> R (.returned (.int .i64 (k : Int))) w) (hout : (∀ k, k < xs.length -> xs.getD k 0 ≠ t) -> R (.returned (.int .i64 (-1))) w) :
 Calls Tryz.prog 63 #[v, .int .i64 t] w R := by
 obtain ⟨A, c, rfl, hm, hcap, hs⟩ := h.cases_
 obtain ⟨Hin, Hout⟩ := lh2 hin hout
 clear hin hout h
 go_enter Tryz.func63, Tryz.ntmps63
 go_wp2
 go_loopg [5, 8] xs.length (fun g o i wr => ∃ k : Nat, k ≤ xs.length ∧ g = xs.length - k ∧ i = .int .i64 k ∧ (∀ j, j < k -> xs.getD j 0 ≠ t) ∧ wr = w)
 case atStart => exact ⟨0, Nat.zero_le _, rfl, rfl, (fun j hj => absurd hj (Nat.not_lt_zero _)), rfl⟩
 case round =>
  obtain ⟨k, hk, rfl, rfl, hne, rfl⟩ := hrel
  have Hne := lh hne
  clear hne
  by_cases hlt : k < xs.length
  ·obtain ⟨b, off, rfl, hb, p0⟩ := hs.int_at hlt
   have i1 := nnn k
   have i2 : (k : Int) < (xs.length : Int) := by omega
   have Hk : Hid (xs.getD k 0 = t -> R (.returned (.int .i64 (k : Int))) wr) := Hin.out k hlt
   obtain ⟨x, hx⟩ : ∃ x, xs.getD k 0 = x := ⟨_, rfl⟩
   rw [hx] at p0 Hk
   have Hx := lh hx
   clear hx
   by_cases hxt : t = x
   ·subst hxt
    have HR : Hid (R (.returned (.int .i64 (k : Int))) wr) := Hk.out rfl
    clear Hk Hin Hout
    go_wp2
    exact HR.out
   ·have hb' : (t == x) = false := by simp [hxt]
    go_wp2
    go_roundg (xs.length - (k + 1))
    case measure => omega
    case rel =>
     refine ⟨k + 1, by omega, rfl, by go_num, fun j hj => ?_, rfl⟩
     rcases Nat.lt_succ_iff_lt_or_eq.1 hj with h1 | rfl
     ·exact Hne.out j h1
     ·rw [Hx.out]; exact fun e => hxt e.symm
  ·obtain rfl : k = xs.length := by omega
   have HR : Hid (R (.returned (.int .i64 (-1))) wr) := Hout.out Hne.out
   clear Hin Hout Hne
   go_wp2
   exact HR.out
theorem q1u (v : Value) (xs : List Int) (t : Int) (w : World) (h : rpInt.SL w w.heap.size xs v) (R : Ending -> World -> Prop)
 (hR : R (.returned (.bool (decide (t ∈ xs)))) w) :
 Calls Tryz.prog 30 #[v, .int .i64 t] w R := by
 have HR := lh hR
 clear hR
 go_enter Tryz.func30, Tryz.ntmps30
 go_wp2_with fail
 refine q9i _ xs t _ h _ (fun k hk e => ?_) (fun hn => ?_)
 ·have hin : decide (t ∈ xs) = true := by
   have : t ∈ xs := by rw [<- e, List.getD_eq_getElem?_getD, List.getElem?_eq_getElem hk]; exact List.getElem_mem hk
   simp [this]
  rw [hin] at HR
  have i1 := nnn k
  clear hin
  go_wp2
  exact HR.out
 ·have hin : decide (t ∈ xs) = false := by
   have : t ∉ xs := by
    intro hm
    obtain ⟨k, hk, e⟩ := List.getElem_of_mem hm
    exact hn k hk (by rw [List.getD_eq_getElem?_getD, List.getElem?_eq_getElem hk]; exact e)
   simp [this]
  rw [hin] at HR
  clear hin hn
  go_wp2
  exact HR.out
def freeI (gv acl row pl : List Int) (r p : Int) : Bool := decide (p ∈ gv) && (decide (6 ≤ p) || !decide (r ∈ acl)) && !q8i row pl p
theorem IntAt.SLn {g cp : Nat} {S : List Int} {w : World} (h : IntAt g S w) (hm : S.length ≤ maxLen ∧ S.length ≤ cp) : rpInt.SL w w.heap.size S (.slice (some ⟨g, 0, none⟩) S.length cp) := h.SL hm.1 hm.2
theorem qdd (P : PW) (p : Int) (r : Nat) (hr : r < P.rows.length) (w : World) (hN : PaintN P w) (R : Ending -> World -> Prop)
 (hR : ∀ w', Below w.heap.size w w' -> R (.returned (.bool (freeI P.gv P.acl P.rows[r] P.pl (r : Int) p))) w') :
 Calls Tryz.prog 82 #[.pointer (some ⟨P.PB, 0, none⟩), .int .i64 (r : Int), .int .i64 p] w R := by
 unfold freeI at hR
 obtain ⟨HR, HN⟩ := lh2 hR hN
 have x2 : w.cell? ⟨P.PB, 5, none⟩ = some (.slice P.aA P.acl.length P.ac) := by rw [qe hN.bx]; rfl
 have x3 : w.cell? ⟨P.PB, 6, none⟩ = some (.slice (some ⟨P.gg, 0, none⟩) P.gv.length P.cg) := by rw [qe hN.bx]; rfl
 have l2 := qc hN.bx
 have hT := lh (q7r P p r hr w hN)
 have hA := lh (q1u (.slice P.aA P.acl.length P.ac) P.acl (r : Int) w (hN.ac.up (Below.refl _ _) hN.le))
 have hG := lh (q1u (.slice (some ⟨P.gg, 0, none⟩) P.gv.length P.cg) P.gv p w (hN.gv.SLn hN.mg))
 generalize q8i P.rows[r] P.pl p = t at *
 generalize decide (p ∈ P.gv) = g at *
 generalize decide ((r : Int) ∈ P.acl) = a at *
 have hx : (6 : Int) ≤ p ∨ ¬ (6 : Int) ≤ p := by omega
 clear hR hN
 go_enter Tryz.func82, Tryz.ntmps82
 rcases hx with hx | hx
 ·have hd := lh (decide_eq_true hx)
  go_wp2_with fail
  refine hG.out _ ?_
  cases g
  ·go_wp2
   all_goals (have := HR.out w (Below.refl _ _); simpa [hd.out] using this)
  ·go_wp2_with fail
   refine hT.out _ (fun w1 hb1 => ?_)
   have := HR.out w1 hb1
   have HF := lh this
   cases t
   all_goals (go_wp2; simpa [hd.out] using HF.out)
 ·have hd := lh (decide_eq_false hx)
  go_wp2_with fail
  refine hA.out _ ?_
  cases a
  ·go_wp2_with fail
   refine hG.out _ ?_
   cases g
   ·go_wp2
    all_goals (have := HR.out w (Below.refl _ _); simpa [hd.out] using this)
   ·go_wp2_with fail
    refine hT.out _ (fun w1 hb1 => ?_)
    have := HR.out w1 hb1
    have HF := lh this
    cases t
    all_goals (go_wp2; simpa [hd.out] using HF.out)
  ·go_wp2_with fail
   refine hG.out _ ?_
   cases g
   all_goals (go_wp2; have := HR.out w (Below.refl _ _); simpa [hd.out] using this)
end Go.Proofs.YtdanebboiekieaaGreatDoor
namespace Go.Proofs.YtdanebboiekieaaGreatDoor
open Go.RowKit Go.Shelf
attribute [local go_sem] Oper.semAt_some
theorem qas (p : Value) (b : Nat) (hp : p = .pointer (some ⟨b, 0, none⟩)) (r : Int) (w : World) (R : Ending -> World -> Prop)
 (hR : R (.returned (.func (.func 104) #[] #[.pointer (some ⟨w.heap.size + 1, 0, none⟩), .pointer (some ⟨w.heap.size, 0, none⟩)])) ((w.alloc (Obj.cells #[p] 93)).alloc (Obj.cells #[.int .i64 r] 3))) :
 Calls Tryz.prog 81 #[p, .int .i64 r] w R := by
 subst hp
 have HR := lh hR
 clear hR
 go_enter Tryz.func81, Tryz.ntmps81
 go_wp2
 exact HR.out
theorem qar {row pl : List Int} {n : Nat} (hl : pl.length = n) (h : ∀ o ∈ row, 0 ≤ o ∧ o < (n : Int)) (p : Int) : q8i row pl p = q1e row pl p := by
 unfold q8i q1e
 rw [Bool.eq_iff_iff, List.any_eq_true, List.any_eq_true]
 have key : ∀ o ∈ row, iAt pl o.toNat = pl.getD o.toNat (-1) := fun o ho => by
  have := h o ho
  unfold iAt
  rw [List.getD_eq_getElem?_getD, List.getD_eq_getElem?_getD, List.getElem?_eq_getElem (by omega)]
  rfl
 constructor
 ·rintro ⟨o, ho, h1⟩
  exact ⟨o, ho, by rw [<- key o ho]; exact h1⟩
 ·rintro ⟨o, ho, h1⟩
  exact ⟨o, ho, by rw [key o ho]; exact h1⟩
def PW.wishA (P : PW) (r : Nat) : List Int := P.f.blocks.flatMap (asksJ P.pl r) ++ (if (r : Int) < P.f.params then [(r : Int)] else []) ++ P.gv
def PW.row (P : PW) (r : Nat) : List Int := P.rows.getD r []
def PW.fr (P : PW) (r : Nat) (p : Int) : Bool := freeI P.gv P.acl (P.row r) P.pl (r : Int) p
def PW.paint (P : PW) (r : Nat) : Int :=
 match (P.wishA r).find? (P.fr r) with
 | some p => p
 | none => slotP (q1e (P.row r) P.pl)
theorem qcv {fn : Func} {p : Tmp} (h : fn.results = #[.cell p 3]) {tmps : Array Value} {b : Nat} {w : World} {x : Value} (hp : tmps.getD p undef = .pointer (some ⟨b, 0, none⟩))
 (hc : w.cell? ⟨b, 0, none⟩ = some x) : (results fn tmps).run Tryz.prog w = .ok x w := by
 rw [Array.getD_eq_getD_getElem?] at hp
 simp [results, h, hp, go_sem, hc]
theorem qf8 {α : Type} {f : α -> Bool} {l pre : List α} {v : α} (hp : pre ++ [v] <+: l) (h1 : ∀ x ∈ pre, f x = false) (h2 : f v = true) : l.find? f = some v := by
 obtain ⟨t, rfl⟩ := hp
 rw [List.append_assoc, List.find?_append, List.find?_eq_none.2 (fun x hx => by rw [h1 x hx]; decide)]
 simp [h2]
theorem qbo (P : PW) (r : Nat) (hr : r < P.rows.length) (hx : ∀ b ∈ P.f.blocks, ∀ x ∈ b.list, x.op = 1 -> x.a.reg = true -> (0 ≤ x.dst ∧ x.dst < (P.n : Int)) ∧ (0 ≤ x.a.n ∧ x.a.n < (P.n : Int)))
 (hmx : P.f.blocks.length ≤ maxLen ∧ P.gv.length ≤ maxLen ∧ ∀ b ∈ P.f.blocks, b.list.length ≤ maxLen) (h100 : (P.row r).length ≤ 100) (w : World) (hN : PaintN P w) (R : Ending -> World -> Prop)
 (hR : ∀ w', Below w.heap.size w w' -> R (.returned (.int .i64 (P.paint r))) w') :
 Calls Tryz.prog 46 #[.pointer (some ⟨P.PB, 0, none⟩), .int .i64 (r : Int)] w R := by
 have hrow : P.row r = P.rows[r] := by
  unfold PW.row
  rw [List.getD_eq_getElem?_getD, List.getElem?_eq_getElem hr]
  rfl
 obtain ⟨Hrow, HR, HN⟩ := lh3 hrow hR hN
 have lPB := qc hN.bx
 clear hR hrow
 refine (callsIn_wide (n := 7)).1 ?_
 refine callsIn_of_wp_marks Tryz.func46 rfl trivial ?_ rfl
 simp only [Tryz.ntmps46, List.size_toArray, List.length_cons, List.length_nil, Nat.reduceAdd, Nat.reduceSub, Array.replicate_succ, Array.replicate_zero, List.push_toArray, List.append_toArray, List.nil_append, List.cons_append]
 gi_wp2
 refine ⟨trivial, callsIn_wide.2 (qas _ _ rfl _ _ _ ?_)⟩
 gi_wp2
 obtain ⟨B, hB⟩ := nmm (w.heap.size)
 obtain ⟨W3, hW3⟩ : ∃ W3, W3 = (((((w.alloc (Obj.cells #[.pointer (some ⟨P.PB, 0, none⟩)] 93)).alloc (Obj.cells #[.int .i64 (r : Int)] 3)).alloc (Obj.cells #[.int .i64 0] 3)).alloc (Obj.cells #[.pointer (some ⟨P.PB, 0, none⟩)] 93)).alloc (Obj.cells #[.int .i64 (r : Int)] 3)) := ⟨_, rfl⟩
 have hsz : W3.heap.size = B + 5 := by subst hW3 hB; simp
 have hb3 : Below w.heap.size w W3 := by subst hW3; exact bl0
 have hc0 : W3.heap[B]? = some (.cells #[.pointer (some ⟨P.PB, 0, none⟩)] 93 (0, 0)) := by
  subst hW3
  exact (qh (qh (qh (qh (by have := heap_alloc_new w (Obj.cells #[.pointer (some ⟨P.PB, 0, none⟩)] 93); rwa [show w.heap.size = B from by subst hB; simp] at this) _) _) _) _)
 have hc1 : W3.heap[B + 1]? = some (.cells #[.int .i64 (r : Int)] 3 (0, 0)) := by
  subst hW3
  exact (qh (qh (qh (by have := heap_alloc_new (w.alloc (Obj.cells #[.pointer (some ⟨P.PB, 0, none⟩)] 93)) (Obj.cells #[.int .i64 (r : Int)] 3); rwa [show (w.alloc (Obj.cells #[.pointer (some ⟨P.PB, 0, none⟩)] 93)).heap.size = B + 1 from by subst hB; simp] at this) _) _) _)
 have hc2 : W3.heap[B + 1 + 1]? = some (.cells #[.int .i64 0] 3 (0, 0)) := by
  subst hW3
  exact (qh (qh (by have := heap_alloc_new ((w.alloc (Obj.cells #[.pointer (some ⟨P.PB, 0, none⟩)] 93)).alloc (Obj.cells #[.int .i64 (r : Int)] 3)) (Obj.cells #[.int .i64 0] 3); rwa [show ((w.alloc (Obj.cells #[.pointer (some ⟨P.PB, 0, none⟩)] 93)).alloc (Obj.cells #[.int .i64 (r : Int)] 3)).heap.size = B + 1 + 1 from by subst hB; simp] at this) _) _)
 have hc3 : W3.heap[B + 1 + 1 + 1]? = some (.cells #[.pointer (some ⟨P.PB, 0, none⟩)] 93 (0, 0)) := by
  subst hW3
  exact (qh (by have := heap_alloc_new (((w.alloc (Obj.cells #[.pointer (some ⟨P.PB, 0, none⟩)] 93)).alloc (Obj.cells #[.int .i64 (r : Int)] 3)).alloc (Obj.cells #[.int .i64 0] 3)) (Obj.cells #[.pointer (some ⟨P.PB, 0, none⟩)] 93); rwa [show (((w.alloc (Obj.cells #[.pointer (some ⟨P.PB, 0, none⟩)] 93)).alloc (Obj.cells #[.int .i64 (r : Int)] 3)).alloc (Obj.cells #[.int .i64 0] 3)).heap.size = B + 1 + 1 + 1 from by subst hB; simp] at this) _)
 have hc4 : W3.heap[B + 1 + 1 + 1 + 1]? = some (.cells #[.int .i64 (r : Int)] 3 (0, 0)) := by
  subst hW3
  exact (by have := heap_alloc_new ((((w.alloc (Obj.cells #[.pointer (some ⟨P.PB, 0, none⟩)] 93)).alloc (Obj.cells #[.int .i64 (r : Int)] 3)).alloc (Obj.cells #[.int .i64 0] 3)).alloc (Obj.cells #[.pointer (some ⟨P.PB, 0, none⟩)] 93)) (Obj.cells #[.int .i64 (r : Int)] 3); rwa [show ((((w.alloc (Obj.cells #[.pointer (some ⟨P.PB, 0, none⟩)] 93)).alloc (Obj.cells #[.int .i64 (r : Int)] 3)).alloc (Obj.cells #[.int .i64 0] 3)).alloc (Obj.cells #[.pointer (some ⟨P.PB, 0, none⟩)] 93)).heap.size = B + 1 + 1 + 1 + 1 from by subst hB; simp] at this)
 rw [show (((((w.alloc (Obj.cells #[.pointer (some ⟨P.PB, 0, none⟩)] 93)).alloc (Obj.cells #[.int .i64 (r : Int)] 3)).alloc (Obj.cells #[.int .i64 0] 3)).alloc (Obj.cells #[.pointer (some ⟨P.PB, 0, none⟩)] 93)).alloc (Obj.cells #[.int .i64 (r : Int)] 3)) = W3 from hW3.symm, <- hB]
 have hle : P.b0 ≤ B := by have := HN.out.le; omega
 have hlp : P.gp < B := by have := HN.out.pl.lt; omega
 have hlg : P.gg < B := by have := HN.out.gv.lt; omega
 have hlP : P.PB < B := by omega
 obtain ⟨HB, HSZ⟩ := lh2 hB hsz
 clear hW3 lPB
 obtain ⟨Hc0, Hc1, Hc2⟩ := lh3 hc0 hc1 hc2
 have HN3 := lh (HN.out.below hb3)
 have Hb3 := lh hb3
 obtain ⟨Q, hQ⟩ : ∃ Q : WP, Q = ⟨P.f, P.pl, P.gv, r, P.nm, .slice P.cA P.rows.length P.cc, .slice P.aA P.acl.length P.ac, P.A, P.cb, P.PB, B + 1 + 1 + 1 + 1, B + 1 + 1 + 1, P.gp, P.cp, P.gg, P.cg, P.b0, B + 1 + 1, P.n, P.hpl, hx⟩ := ⟨_, rfl⟩
 have HQw : Hid (Q.wishL = P.wishA r) := lh (by subst hQ; rfl)
 have hWN : WishN Q W3 := by
  subst hQ
  exact ⟨hc4, hc3, HN3.out.bx, HN3.out.bl, HN3.out.pl, HN3.out.gv, ⟨by show B + 1 + 1 + 1 + 1 ≠ B + 1 + 1; omega, by show B + 1 + 1 + 1 ≠ B + 1 + 1; omega, by show P.PB ≠ B + 1 + 1; omega, by show P.gp ≠ B + 1 + 1; omega, by show P.gg ≠ B + 1 + 1; omega⟩, by show P.b0 ≤ B + 1 + 1; omega, by show B + 1 + 1 < W3.heap.size; omega⟩
 have hst := q93 6 (by decide) Q (by subst hQ; exact hmx) W3 hWN
 rw [show Q.Br = B + 1 + 1 + 1 + 1 by rw [hQ], show Q.Bp = B + 1 + 1 + 1 by rw [hQ], show Q.Rc = B + 1 + 1 by rw [hQ], HQw.out] at hst
 have Hst := lh hst
 clear hst hWN hQ HQw hc0 hc1 hc2 hc3 hc4 hb3 hB hsz
 refine wpIn_rangeFunc_ownH (F := Fence.wide) rfl (by decide) (gf := 104) (lb := #[.pointer (some ⟨B + 1 + 1 + 1 + 1, 0, none⟩), .pointer (some ⟨B + 1 + 1 + 1, 0, none⟩)]) rfl trivial (enters_of Tryz.func104 (by kernel_rfl) rfl)
  Hst.out (fun h k => h.trans k) (fun W l o o' _ h1 h2 _ => CKeep.putObj W l o o' h1 h2) (Below.refl _ _) (fun _ => rfl)
  (fun pre W => Below W3.heap.size W3 W ∧ ∀ v ∈ pre, P.fr r v = false)
  (fun c pre W => c = Code.ret ∧ Below w.heap.size w W ∧ ∃ l v, pre = l ++ [v] ∧ (∀ x ∈ l, P.fr r x = false) ∧ P.fr r v = true ∧ W.heap[B + 1 + 1]? = some (.cells #[.int .i64 v] 3 (0, 0)))
  ?own ?ownx ⟨Below.refl _ _, fun _ h => by cases h⟩
  (fun v a' W => a' = { tmps := #[.pointer (some ⟨P.PB, 0, none⟩), .int .i64 (r : Int), .pointer (some ⟨B, 0, none⟩), .pointer (some ⟨B + 1, 0, none⟩), .pointer (some ⟨B + 1 + 1, 0, none⟩), .int .i64 v, undef, .pointer (some ⟨P.PB, 0, none⟩), .int .i64 (r : Int), .func (.func 104) #[] #[.pointer (some ⟨B + 1 + 1 + 1 + 1, 0, none⟩), .pointer (some ⟨B + 1 + 1 + 1, 0, none⟩)], .int .i64 v, undef, undef, undef, undef, undef, undef, undef, undef, undef, undef, undef, undef], defers := [] })
  (fun v a' s X Y row hs hg hr => hs) ?assign ?body ?done ?stop
 case own =>
  intro s X Y row hs hg hr
  exact ⟨ownFrom_below (Nat.le_refl _) (Nat.le_refl _) () X Y row hs.1 hg hr, hs.2⟩
 case ownx =>
  rintro c s X Y row ⟨h1, h2, l, v, h3, h4, h5, h6⟩ hg hr
  exact ⟨h1, ownFrom_below (Nat.le_refl _) Hb3.out.size () X Y row h2 hg hr, l, v, h3, h4, h5, q1w _ _ _ _ W3.heap.size () X Y row h6 hg hr⟩
 case assign =>
  rintro l pre v W K ⟨hI, hF⟩ hK
  gi_wp2
  exact hK _ _ (KeepsFrom.refl _ _) (CKeep.refl _ _) ⟨hI, hF⟩ rfl
 case body =>
  rintro l pre v a' W hl ⟨rr, hrr⟩ ⟨hI, hF⟩ rfl hlen
  have hi0 := (hI.block _ (qc Hc0.out)).trans Hc0.out
  have hi1 := (hI.block _ (qc Hc1.out)).trans Hc1.out
  have hi2 := (hI.block _ (qc Hc2.out)).trans Hc2.out
  have x0 : W.cell? ⟨B, 0, none⟩ = some (.pointer (some ⟨P.PB, 0, none⟩)) := cqq hi0
  have x1 : W.cell? ⟨B + 1, 0, none⟩ = some (.int .i64 (r : Int)) := cqq hi1
  have l0 := qc hi0
  have l1 := qc hi1
  obtain ⟨HI, HF⟩ := lh2 hI hF
  clear hI hF hi0 hi1 hi2
  gi_wp2
  refine ⟨trivial, CallsIn.inRound l (callsIn_wide.2 (qdd P v r hr _ (HN3.out.below HI.out) _ (fun w1 hb1 => ?_)))⟩
  have HI1 := lh (HI.out.trans (hb1.mono HI.out.size))
  have Hb1 := lh hb1
  rw [<- Hrow.out]
  have hfr : freeI P.gv P.acl (P.row r) P.pl (r : Int) v = P.fr r v := rfl
  rw [hfr]
  clear hfr hb1 x0 x1 l0 l1
  cases hv : P.fr r v
  ·gi_wp2
   exact ⟨KeepsFrom.of_grownBy (q0j Hb1.out none) (fun j e => by cases e), CKeep.of_below Hb1.out, HI1.out, fun x hx => by
    rcases List.mem_append.1 hx with h | h
    ·exact HF.out x h
    ·rw [List.mem_singleton.1 h]; exact hv⟩
  ·have hi2 := (HI1.out.block _ (qc Hc2.out)).trans Hc2.out
   have x2 : w1.cell? ⟨B + 1 + 1, 0, none⟩ = some (.int .i64 0) := cqq hi2
   have l2 := qc hi2
   have y2 := fzz hi2 0
   have Hi2 := lh hi2
   clear hi2
   gi_wp2
   have hblk : (w1.setCell ⟨B + 1 + 1, 0, none⟩ (.int .i64 v)).heap[B + 1 + 1]? = some (.cells #[.int .i64 v] 3 (0, 0)) := q0p (j := 0) Hi2.out _
   have hg1 : W.grownBy (w1.setCell ⟨B + 1 + 1, 0, none⟩ (.int .i64 v)) (some (B + 1 + 1)) := (q0j Hb1.out _).trans (q07 _ _ _)
   refine ⟨KeepsFrom.of_grownBy hg1 (fun j e => by cases e; have := HSZ.out; omega), rfl, ?_, pre, v, rfl, HF.out, hv, hblk⟩
   exact (Hb3.out.trans (HI.out.mono Hb3.out.size)).grown hg1 (Nat.le_trans Hb3.out.size HI.out.size) (fun k e => by cases e; have := HB.out; omega)
 case done =>
  rintro D xs W hD rfl ⟨hI, hF⟩ hK
  obtain ⟨HI, HF, HK, HD⟩ := lh4 hI hF hK hD
  clear hI hF hK hD
  obtain ⟨J, hJ1, hJ2, hJ3, hJ4⟩ := q9k (row := P.row r) (pl := P.pl) h100
  have HJ2 : Hid (P.paint r = 16 + (J : Int)) := lh (by
   unfold PW.paint
   rw [List.find?_eq_none.2 (fun x hx => by rw [HF.out x hx]; decide)]
   exact hJ2)
  obtain ⟨HJ3, HJ4⟩ := lh2 hJ3 hJ4
  clear hJ2 hJ3 hJ4
  gi_wp2
  gi_loopw [6] (fun i wr => ∃ j : Nat, j ≤ J ∧ i = .int .i64 (16 + (j : Int)) ∧ Hid (Below W.heap.size W wr))
   (fun i _ => J - (intOf i - 16).toNat)
  case atStart => exact ⟨0, Nat.zero_le _, rfl, lh (Below.refl _ _)⟩
  case round =>
   obtain ⟨j, hj, rfl, HW⟩ := hrel
   have HI2 := lh (HI.out.trans (HW.out.mono HI.out.size))
   have hi0 := (HI2.out.block _ (qc Hc0.out)).trans Hc0.out
   have hi1 := (HI2.out.block _ (qc Hc1.out)).trans Hc1.out
   have x0 : wr.cell? ⟨B, 0, none⟩ = some (.pointer (some ⟨P.PB, 0, none⟩)) := cqq hi0
   have x1 : wr.cell? ⟨B + 1, 0, none⟩ = some (.int .i64 (r : Int)) := cqq hi1
   have l0 := qc hi0
   have l1 := qc hi1
   clear hi0 hi1
   gi_wp2
   refine ⟨trivial, callsIn_wide.2 (q7r P (16 + (j : Int)) r hr _ (HN3.out.below HI2.out) _ (fun w1 hb1 => ?_))⟩
   rw [<- Hrow.out, qar P.hpl (by rw [Hrow.out]; exact P.hrow _ (List.getElem_mem hr))]
   have HW1 := lh (HW.out.trans (hb1.mono HW.out.size))
   have HI1 := lh (HI.out.trans (HW1.out.mono HI.out.size))
   clear hb1 x0 x1 l0 l1
   cases hv : q1e (P.row r) P.pl (16 + (j : Int))
   ·have hjJ : J = j := by
     rcases Nat.lt_or_ge j J with h | h
     ·rw [HJ4.out j h] at hv; cases hv
     ·omega
    subst hjJ
    have hi2 := (HI1.out.block _ (qc Hc2.out)).trans Hc2.out
    have x2 : w1.cell? ⟨B + 1 + 1, 0, none⟩ = some (.int .i64 0) := cqq hi2
    have l2 := qc hi2
    have y2 := fzz hi2 0
    have Hi2 := lh hi2
    have HK1 := lh ((HW1.out.block D (Array.getElem?_eq_some_iff.1 HK.out).1).trans HK.out)
    clear hi2 hv
    gi_wp2
    have hblk : (w1.setCell ⟨B + 1 + 1, 0, none⟩ (.int .i64 (16 + (J : Int)))).heap[B + 1 + 1]? = some (.cells #[.int .i64 (16 + (J : Int))] 3 (0, 0)) := q0p (j := 0) Hi2.out _
    have hDr : D ≠ B + 1 + 1 := by have := HD.out; have := HSZ.out; omega
    have hKs : (w1.setCell ⟨B + 1 + 1, 0, none⟩ (.int .i64 (16 + (J : Int)))).heap[D]? = some (.deferred (some [])) := (Below.heap_setCell _ _ _ _ hDr).trans HK1.out
    have hbe : Below w.heap.size w (w1.setCell ⟨B + 1 + 1, 0, none⟩ (.int .i64 (16 + (J : Int)))) := (Hb3.out.trans (HI1.out.mono Hb3.out.size)).grown (q07 _ _ _) (Nat.le_trans Hb3.out.size HI1.out.size) (fun k e => by cases e; have := HB.out; show w.heap.size ≤ B + 1 + 1; omega)
    refine q0z (n₀ := w.heap.size) hbe.size (.cons (Nat.le_trans Hb3.out.size HD.out) hKs (fun _ h => by cases h) .nil) (fun w' hsh => ?_)
    have hblk' := hsh.cells _ _ hblk (fun x e => by cases e)
    refine ⟨_, qcv (by rfl) (by rfl) (show w'.cell? ⟨B + 1 + 1, 0, none⟩ = some (.int .i64 (16 + (J : Int))) by rw [qe hblk']; rfl), ?_⟩
    rw [<- HJ2.out]
    exact HR.out w' (hbe.trans hsh.bel)
   ·have hjJ : j < J := by
     rcases Nat.lt_or_ge j J with h | h
     ·exact h
     ·have : j = J := by omega
      subst this
      rw [HJ3.out] at hv
      cases hv
    clear hv
    gi_wp2
    go_roundw
    case rel => exact ⟨j + 1, by omega, by go_num, HW1⟩
    case measure => simp [intOf] <;> omega
 case stop =>
  rintro D c pre W hD hpre ⟨rfl, hbw, l, v, rfl, h4, h5, h6⟩ hK
  have HFd : Hid (P.paint r = v) := lh (by
   unfold PW.paint
   rw [qf8 hpre h4 h5])
  gi_wp2
  refine q0z (n₀ := w.heap.size) hbw.size (.cons (Nat.le_trans Hb3.out.size hD) hK (fun _ h => by cases h) .nil) (fun w' hsh => ?_)
  have hblk' := hsh.cells _ _ h6 (fun x e => by cases e)
  refine ⟨_, qcv (by rfl) (by rfl) (show w'.cell? ⟨B + 1 + 1, 0, none⟩ = some (.int .i64 v) by rw [qe hblk']; rfl), ?_⟩
  rw [<- HFd.out]
  exact HR.out w' (hbw.trans hsh.bel)
end Go.Proofs.YtdanebboiekieaaGreatDoor
