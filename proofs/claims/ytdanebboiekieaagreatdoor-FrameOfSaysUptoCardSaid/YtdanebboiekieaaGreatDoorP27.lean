/- The walks, part 27. -/
import Derived.Test.YtdanebboiekieaaGreatDoorP26
set_option linter.unusedSimpArgs false
set_option linter.unusedVariables false
set_option maxRecDepth 100000
set_option maxHeartbeats 16000000
namespace Go.Proofs.YtdanebboiekieaaGreatDoor
open Go.RowKit
def askR (f : UFun) (pl : List Int) (r : Int) : List Int := f.blocks.flatMap (asksJ pl r) ++ (if r < f.params then [r] else []) ++ ints 14
def akB (f : UFun) (pl : List Int) (r : Int) (i : Nat) : List Int := (f.blocks.take i).flatMap (asksJ pl r)
def akI (L : List Int) (pl : List Int) (r : Int) (l : List UIns) (k : Nat) : List Int := L ++ (l.take k).flatMap (asksI pl r)
theorem cq4 {w : World} {b : Nat} {v0 v1 v2 v3 : Value} {T : TypeId} (h : w.heap[b]? = some (.cells #[v0, v1, v2, v3] T (0, 0))) : w.cell? ⟨b, 0, none⟩ = some v0 ∧ w.cell? ⟨b, 1, none⟩ = some v1 ∧ w.cell? ⟨b, 2, none⟩ = some v2 ∧ w.cell? ⟨b, 3, none⟩ = some v3 := ⟨cqq h, cqq h, cqq h, cqq h⟩
theorem qgy {f : UFun} {pl : List Int} {r : Int} {i : Nat} (h : i < f.blocks.length) : akB f pl r (i + 1) = akI (akB f pl r i) pl r f.blocks[i].list f.blocks[i].list.length := by
 unfold akB akI
 rw [List.take_succ_eq_append_getElem h, List.flatMap_append, List.take_length]
 simp [asksJ, akB]
theorem qgz {L pl : List Int} {r : Int} {l : List UIns} {k : Nat} (h : k < l.length) : akI L pl r l (k + 1) = akI L pl r l k ++ asksI pl r l[k] := by
 unfold akI
 rw [List.take_succ_eq_append_getElem h, List.flatMap_append, List.append_assoc]
 simp
theorem q9l (pl : List Int) (r : Int) (x : UIns) : (asksI pl r x).length ≤ 2 := by
 unfold asksI
 split
 ·rw [List.length_append]
  split <;> split <;> simp
 ·simp
theorem q6n {α : Type} {g : α -> List Int} {m : Nat} : ∀ (l : List α), (∀ x ∈ l, (g x).length ≤ m) -> (l.flatMap g).length ≤ l.length * m
 | [], _ => by simp
 | x :: l, h => by
   rw [List.flatMap_cons, List.length_append, List.length_cons, Nat.succ_mul]
   have h1 := h x (.head _)
   have h2 := q6n l (fun y hy => h y (.tail _ hy))
   omega
theorem qiy {L pl : List Int} {r : Int} {l : List UIns} {k : Nat} (h : l.length ≤ 300) : (akI L pl r l k).length ≤ L.length + 600 := by
 unfold akI
 rw [List.length_append]
 have h1 := q6n (g := asksI pl r) (m := 2) (l.take k) (fun x _ => q9l _ _ _)
 have h2 : (l.take k).length ≤ 300 := by rw [List.length_take]; omega
 omega
theorem qf4 {f : UFun} {pl : List Int} {r : Int} (h : ∀ b ∈ f.blocks, b.list.length ≤ 300) (hn : f.blocks.length ≤ 40) (i : Nat) : (akB f pl r i).length ≤ 24000 := by
 unfold akB
 have h1 := q6n (g := asksJ pl r) (m := 600) (f.blocks.take i) (fun b hb => by
  unfold asksJ
  have h1 := q6n (g := asksI pl r) (m := 2) b.list (fun x _ => q9l _ _ _)
  have h2 := h b (List.mem_of_mem_take hb)
  omega)
 have h2 : (f.blocks.take i).length ≤ 40 := by rw [List.length_take]; omega
 omega
theorem qd6 (f : UFun) (pl : List Int) (many : Int) (r g n cp : Nat) (hl : pl.length = n) (hlen : ∀ b ∈ f.blocks, b.list.length ≤ 300) (hnb : f.blocks.length ≤ 40) (hx : ∀ b ∈ f.blocks, ∀ x ∈ b.list, x.op = 1 -> x.a.reg = true -> (0 ≤ x.dst ∧ x.dst < (n : Int)) ∧ (0 ≤ x.a.n ∧ x.a.n < (n : Int))) (A : Option Addr) (c : Nat) (w : World) (h : rpBlk.SL w w.heap.size f.blocks (.slice A f.blocks.length c)) (hI : IntAt g pl w) (R : Ending -> World -> Prop)
 (hR : ∀ w' v', Below w.heap.size w w' -> w'.ownsRow w.heap.size 3 1 v' (askR f pl (r : Int)).length ((askR f pl (r : Int)).flatMap qf) -> R (.returned v') w') :
 Calls Tryz.prog 50 #[.agg #[.string f.name, .int .i64 f.params, .int .i64 f.regs, .slice A f.blocks.length c], .slice (some ⟨g, 0, none⟩) n cp, .int .i64 many, .int .i64 (r : Int)] w R := by
 obtain ⟨HR, Hs, Hl, Hlen, Hx, HI⟩ := lh6 hR h hl hlen hx hI
 obtain ⟨i0, hi0, hz0, hz1, hz2⟩ := info_parts q1v
 clear hR h hl hlen hx hI
 go_enter Tryz.func50, Tryz.ntmps50
 go_upto_region 1 with fail
 obtain ⟨W2, hW2, hb2, hU2⟩ := box1 w (.cells #[.string f.name, .int .i64 f.params, .int .i64 f.regs, .slice A f.blocks.length c] 56) rfl
 rw [<- hW2]
 obtain ⟨Hb2, HU2⟩ := lh2 hb2 hU2
 have Hs2 := lh (Hs.out.up hb2 hb2.size)
 have HI2 := lh (HI.out.below hb2)
 clear hW2 hb2 hU2 Hs HI
 have HO0 : Hid (W2.ownsRow W2.heap.size 3 1 (.slice none 0 0) (akB f pl (r : Int) 0).length ((akB f pl (r : Int) 0).flatMap qf)) := lh (World.ownsRow_nil _ _ _ _)
 go_wp2
 go_loopg [9, 10] f.blocks.length (fun gh s9 s10 wr => ∃ i : Nat, i ≤ f.blocks.length ∧ gh = f.blocks.length - i ∧ s10 = .int .i64 (i : Int) ∧ Hid (wr.ownsRow W2.heap.size 3 1 s9 (akB f pl (r : Int) i).length ((akB f pl (r : Int) i).flatMap qf)) ∧ Hid (Below W2.heap.size W2 wr))
 case atStart => exact ⟨0, Nat.zero_le _, rfl, rfl, HO0, lh (Below.refl _ _)⟩
 case round =>
  clear HO0
  obtain ⟨i, hi, rfl, rfl, HO, Hb⟩ := hrel
  have hzr := Hb.out.size
  have i1 := nnn i
  have hUr := (Hb.out.block _ (qc HU2.out)).trans HU2.out
  have x3 : wr.cell? ⟨w.heap.size, 3, none⟩ = some (.slice A f.blocks.length c) := cqq hUr
  have lU := qc hUr
  by_cases hlt : i < f.blocks.length
  ·have i2 : (i : Int) < (f.blocks.length : Int) := by omega
   obtain ⟨bb, off, vp, vl, vt, rfl, hbb, _, hl, _, _, q1, _, _, _, _⟩ := Hs2.out.blk_at hlt
   obtain ⟨Al, cl, rfl, hlm, _, hl⟩ := hl.cases_
   have hnx := qgy (pl := pl) (r := (r : Int)) hlt
   have hst0 : akI (akB f pl (r : Int) i) pl (r : Int) f.blocks[i].list 0 = akB f pl (r : Int) i := by unfold akI; simp
   have hbl := qf4 (pl := pl) (r := (r : Int)) Hlen.out hnb i
   have hll := Hlen.out _ (List.getElem_mem hlt)
   have hxb := Hx.out _ (List.getElem_mem hlt)
   generalize hLL : akB f pl (r : Int) (i + 1) = L' at *
   generalize hL : akB f pl (r : Int) i = L at *
   generalize f.blocks[i] = bk at *
   obtain ⟨HLL, Hnx, HU, Hq1, HB, Hlk, Hxb, Hbl⟩ := lh8 hLL hnx hUr q1 hbb hl hxb hbl
   have HO1 : Hid (wr.ownsRow W2.heap.size 3 1 u9 (akI L pl (r : Int) bk.list 0).length ((akI L pl (r : Int) bk.list 0).flatMap qf)) := lh (by rw [hst0]; exact HO.out)
   clear hLL hL hnx hst0 hUr hbb q1 hl hxb hbl HO
   go_wp2
   clear x3 lU
   go_loopg [9, 11] bk.list.length (fun gh s9 s11 wr => ∃ k : Nat, k ≤ bk.list.length ∧ gh = bk.list.length - k ∧ s11 = .int .i64 (k : Int) ∧ Hid (wr.ownsRow W2.heap.size 3 1 s9 (akI L pl (r : Int) bk.list k).length ((akI L pl (r : Int) bk.list k).flatMap qf)) ∧ Hid (Below W2.heap.size W2 wr))
   case atStart => exact ⟨0, Nat.zero_le _, rfl, rfl, HO1, Hb⟩
   case round =>
    clear HO1 Hb HU
    obtain ⟨k, hk, rfl, rfl, HO, Hb4⟩ := hrel
    have hzr := Hb4.out.size
    have k1 := nnn k
    have hUr := (Hb4.out.block _ (qc HU2.out)).trans HU2.out
    have x3 : wr.cell? ⟨w.heap.size, 3, none⟩ = some (.slice (some ⟨bb, off, none⟩) f.blocks.length c) := cqq hUr
    have lU := qc hUr
    have p1 := (Hb4.out.cell (p := ⟨bb, off + i * 6 + 1, none⟩) HB.out).trans Hq1.out
    have lb : bb < wr.heap.size := by have := HB.out; omega
    by_cases hltk : k < bk.list.length
    ·have k2 : (k : Int) < (bk.list.length : Int) := by omega
     have HlR := lh (Hlk.out.up Hb4.out (by omega : W2.heap.size ≤ wr.heap.size))
     obtain ⟨b2, off2, va, rfl, hb2, hva, e0, e1, e2, e3, e4, e5, e6, e7⟩ := HlR.out.ins_at hltk
     obtain ⟨Aa, ca, rfl, ham, _, hva⟩ := hva.cases_
     have hnx := qgz (L := L) (pl := pl) (r := (r : Int)) hltk
     have hcx := Hxb.out _ (List.getElem_mem hltk)
     have hMl := qiy (L := L) (pl := pl) (r := (r : Int)) (k := k) hll
     generalize hM' : akI L pl (r : Int) bk.list (k + 1) = M' at *
     generalize hM : akI L pl (r : Int) bk.list k = M at *
     generalize bk.list[k] = x at *
     obtain ⟨HM', Hnx, Hcx⟩ := lh3 hM' hnx hcx
     have Hll : Hid (M.length ≤ 24600) := lh (by have := Hbl.out; omega)
     clear hM' hM hnx hcx hva hMl
     obtain ⟨X, hX⟩ := nmm (wr.heap.size)
     obtain ⟨W5, hW5, hb5, hX5⟩ := box1 wr (.cells #[.int .i64 x.op, .int .i64 x.dst, .bool x.a.reg, .int .i64 x.a.n, .bool x.b.reg, .int .i64 x.b.n, .int .i64 x.fn, .slice Aa x.args.length ca] 71) hX
     have hz55 := hb5.size
     have Hb5 := btt Hb4 hb5 hzr
     have HO5 := lh (q0e HO.out hb5)
     have HW5 := lh hW5.symm
     obtain ⟨HXe, HX5⟩ := lh2 hX hX5
     have hz5 : W2.heap.size ≤ W5.heap.size := by omega
     obtain ⟨rA, rc, hsr⟩ := qn HO5.out
     subst hsr
     clear hb5 hX5 hW5 hX HO
     go_upto_region 9 with fail
     rw [<- HXe.out, HW5.out]
     clear e0 e1 e2 e3 e4 e5 e6 e7 x3 lU p1 lb
     have d0 : W5.cell? ⟨X, 0, none⟩ = some (.int .i64 x.op) := cqq HX5.out
     have d1 : W5.cell? ⟨X, 1, none⟩ = some (.int .i64 x.dst) := cqq HX5.out
     have d2 : W5.cell? ⟨X, 2, none⟩ = some (.bool x.a.reg) := cqq HX5.out
     have d3 : W5.cell? ⟨X, 3, none⟩ = some (.int .i64 x.a.n) := cqq HX5.out
     have lX := qc HX5.out
     have HIr : Hid (IntAt g pl W5) := lh (HI2.out.block fun o ho _ => (Hb5.out.block g (qc ho)).trans ho)
     by_cases hcp : x.op = 1 ∧ x.a.reg = true
     ·obtain ⟨h1, h2⟩ := hcp
      have hcx2 := Hcx.out h1 h2
      obtain ⟨dd, hdd⟩ : ∃ dd : Nat, x.dst = (dd : Int) := ⟨x.dst.toNat, by omega⟩
      obtain ⟨aa, haa⟩ : ∃ aa : Nat, x.a.n = (aa : Int) := ⟨x.a.n.toNat, by omega⟩
      have hde : asksI pl (r : Int) x = (if (aa : Int) = (r : Int) then [iAt pl dd] else []) ++ (if (dd : Int) = (r : Int) then [iAt pl aa] else []) := by
       unfold asksI
       rw [if_pos ⟨h1, h2⟩, hdd, haa, Int.toNat_natCast, Int.toNat_natCast]
      rw [hdd] at d1 hcx2
      rw [haa] at d3 hcx2
      rw [h1] at d0
      rw [h2] at d2
      have q0 := nnn dd
      have q1 : (dd : Int) < (n : Int) := hcx2.1.2
      have q2 := nnn aa
      have q3 : (aa : Int) < (n : Int) := hcx2.2.2
      have cd := HIr.out.cell (k := dd) (by rw [Hl.out]; omega)
      have ca' := HIr.out.cell (k := aa) (by rw [Hl.out]; omega)
      have lg := HIr.out.lt
      rw [hde] at Hnx
      generalize iAt pl dd = vd at *
      obtain ⟨v2, hv2⟩ := nmm (iAt pl aa)
      rw [<- hv2] at ca' Hnx
      have Hv2 := lh hv2
      have hop := h1
      have hdst := hdd
      have hreg := h2
      have hn := haa
      clear h1 h2 hcx2 hdd haa hde hv2
      have HXc : Hid (W5.heap[X]? = some (.cells #[.int .i64 1, .int .i64 (dd : Int), .bool true, .int .i64 (aa : Int), .bool x.b.reg, .int .i64 x.b.n, .int .i64 x.fn, .slice Aa x.args.length ca] 71 (0, 0))) := lh (by rw [HX5.out, hop, hdst, hreg, hn])
      clear hop hdst hreg hn
      obtain ⟨M1, hM1⟩ := nmm (M ++ (if (aa : Int) = (r : Int) then [vd] else []))
      go_upto_if 54 with fail
      go_cut [9] (fun s9 wx => Hid (wx.ownsRow W2.heap.size 3 1 s9 M1.length (M1.flatMap qf)) ∧ Hid (Below W2.heap.size W2 wx) ∧ Hid (wx.heap[X]? = some (.cells #[.int .i64 1, .int .i64 (dd : Int), .bool true, .int .i64 (aa : Int), .bool x.b.reg, .int .i64 x.b.n, .int .i64 x.fn, .slice Aa x.args.length ca] 71 (0, 0))))
      case first =>
       by_cases j1 : (aa : Int) = (r : Int)
       ·have g1 : ((aa : Int) == (r : Int)) = true := by simpa using j1
        rw [if_pos j1] at hM1
        have HM1 := lh hM1
        clear j1 hM1
        go_wp2_with (at_builtin; refine wpList_append_own _ rfl _ _ 26 rfl W2.heap.size 3 i0 _ 1 8 Tryz.underlying26 hi0 hz0 hz1 hz2 rfl (by decide) (.slice rA M.length rc) M.length (M.flatMap qf) rfl (HO5.out.alloc _) ⟨W5.heap.size, 0, none⟩ 1 1 [.int .i64 (vd)] rfl rfl ?_ ?_ ?_ ?_ ?_ ?_)
        any_goals have hll := Hll.out
        any_goals first | exact World.news_of_block (cs := #[.int .i64 (vd)]) (t := 3) (fr := (0, 0)) (heap_alloc_new W5 _) | (simp [Value.oneCell']; done) | (unfold maxLen; omega) | omega | (simp; done) | (simp; omega)
        intro v' w9 hown9 hgrow _
        have hbz : Below W2.heap.size W2 w9 := (Hb5.out.alloc hz5 (Obj.cells #[.int .i64 (vd)] 3)).grown hgrow (by simp; omega) (fun j e => (HO5.out.lt j e).1)
        have hO9 : w9.ownsRow W2.heap.size 3 1 v' (M ++ [(vd : Int)]).length ((M ++ [(vd : Int)]).flatMap qf) := by
         rw [List.length_append, List.flatMap_append]
         exact hown9
        have HX9 : Hid (w9.heap[X]? = some (.cells #[.int .i64 1, .int .i64 (dd : Int), .bool true, .int .i64 (aa : Int), .bool x.b.reg, .int .i64 x.b.n, .int .i64 x.fn, .slice Aa x.args.length ca] 71 (0, 0))) := lh (by rw [hgrow.block X (by simp; omega) (qct HO5.out HXc.out (by decide))]; exact qh HXc.out _)
        obtain ⟨Hbz, HO9⟩ := lh2 hbz hO9
        clear hown9 hgrow hbz hO9 hll
        go_wp2
        go_meet
        exact ⟨by rw [HM1.out]; exact HO9, Hbz, HX9⟩
       ·have g1 : ((aa : Int) == (r : Int)) = false := by simpa using j1
        rw [if_neg j1, List.append_nil] at hM1
        have HM1 := lh hM1
        clear j1 hM1
        go_wp2
        go_meet
        exact ⟨by rw [HM1.out]; exact HO5, Hb5, HXc⟩
      case rest =>
       obtain ⟨HO6, Hb6, HX6⟩ := hcut
       rename World => W6
       have hz6 := Hb6.out.size
       have HM1l : Hid (M1.length ≤ 24601) := lh (by have := Hll.out; rw [hM1, List.length_append]; split <;> simp <;> omega)
       rw [<- List.append_assoc, <- hM1] at Hnx
       clear d0 d1 d2 d3 lX cd ca' lg hM1 HO5 HXc Hll
       have Hll := HM1l
       obtain ⟨rB, rc2, hsr2⟩ := qn HO6.out
       subst hsr2
       have d1 : W6.cell? ⟨X, 1, none⟩ = some (.int .i64 (dd : Int)) := cqq HX6.out
       have d3 : W6.cell? ⟨X, 3, none⟩ = some (.int .i64 (aa : Int)) := cqq HX6.out
       have lX := qc HX6.out
       have HIr6 : Hid (IntAt g pl W6) := lh (HI2.out.block fun o ho _ => (Hb6.out.block g (qc ho)).trans ho)
       have ca' := HIr6.out.cell (k := aa) (by rw [Hl.out]; omega)
       have lg := HIr6.out.lt
       rw [<- Hv2.out] at ca'
       by_cases j2 : (dd : Int) = (r : Int)
       ·have g2 : ((dd : Int) == (r : Int)) = true := by simpa using j2
        rw [if_pos j2] at Hnx
        clear j2
        go_wp2_with (at_builtin; refine wpList_append_own _ rfl _ _ 26 rfl W2.heap.size 3 i0 _ 1 8 Tryz.underlying26 hi0 hz0 hz1 hz2 rfl (by decide) (.slice rB M1.length rc2) M1.length (M1.flatMap qf) rfl (HO6.out.alloc _) ⟨W6.heap.size, 0, none⟩ 1 1 [.int .i64 (v2)] rfl rfl ?_ ?_ ?_ ?_ ?_ ?_)
        any_goals have hll := Hll.out
        any_goals first | exact World.news_of_block (cs := #[.int .i64 (v2)]) (t := 3) (fr := (0, 0)) (heap_alloc_new W6 _) | (simp [Value.oneCell']; done) | (unfold maxLen; omega) | omega | (simp; done) | (simp; omega)
        intro v' w9 hown9 hgrow _
        have hbz : Below W2.heap.size W2 w9 := (Hb6.out.alloc hz6 (Obj.cells #[.int .i64 (v2)] 3)).grown hgrow (by simp; omega) (fun j e => (HO6.out.lt j e).1)
        have hO9 : w9.ownsRow W2.heap.size 3 1 v' (M1 ++ [(v2 : Int)]).length ((M1 ++ [(v2 : Int)]).flatMap qf) := by
         rw [List.length_append, List.flatMap_append]
         exact hown9
        obtain ⟨Hbz, HO9⟩ := lh2 hbz hO9
        clear hown9 hgrow hbz hO9 hll
        go_wp2
        go_roundg (bk.list.length - (k + 1))
        case measure => omega
        case rel => exact ⟨k + 1, hltk, rfl, by go_num, by rw [HM'.out, Hnx.out]; exact HO9, Hbz⟩
       ·have g2 : ((dd : Int) == (r : Int)) = false := by simpa using j2
        rw [if_neg j2, List.append_nil] at Hnx
        clear j2
        go_wp2
        go_roundg (bk.list.length - (k + 1))
        case measure => omega
        case rel => exact ⟨k + 1, hltk, rfl, by go_num, by rw [HM'.out, Hnx.out]; exact HO6, Hb6⟩
     ·have hde : asksI pl (r : Int) x = [] := by unfold asksI; rw [if_neg hcp]
      rw [hde, List.append_nil] at Hnx
      clear hde
      have hor : (¬ x.op = 1) ∨ (x.op = 1 ∧ x.a.reg = false) := by
       by_cases h1 : x.op = 1
       ·right
        refine ⟨h1, ?_⟩
        cases h2 : x.a.reg
        ·rfl
        ·exact absurd ⟨h1, h2⟩ hcp
       ·exact .inl h1
      rcases hor with h1 | ⟨h1, h2⟩
      ·have g1 : (x.op == 1) = false := by simpa using h1
       have g2 : (x.op != 1) = true := by simpa using h1
       clear h1 hcp
       go_wp2
       go_roundg (bk.list.length - (k + 1))
       case measure => omega
       case rel => exact ⟨k + 1, hltk, rfl, by go_num, by rw [HM'.out, Hnx.out]; exact HO5, Hb5⟩
      ·rw [h1] at d0
       rw [h2] at d2
       clear h1 h2 hcp
       go_wp2
       go_roundg (bk.list.length - (k + 1))
       case measure => omega
       case rel => exact ⟨k + 1, hltk, rfl, by go_num, by rw [HM'.out, Hnx.out]; exact HO5, Hb5⟩
    ·obtain rfl : k = bk.list.length := by omega
     have k2 : ¬ (bk.list.length : Int) < (bk.list.length : Int) := by omega
     have HOn := HO
     rw [<- Hnx.out] at HOn
     clear HO hUr
     go_wp2
     go_roundg (f.blocks.length - (i + 1))
     case measure => omega
     case rel => exact ⟨i + 1, hlt, rfl, by go_num, by rw [HLL.out]; exact HOn, Hb4⟩
  ·obtain rfl : i = f.blocks.length := by omega
   have i2 : ¬ (f.blocks.length : Int) < (f.blocks.length : Int) := by omega
   have x1 : wr.cell? ⟨w.heap.size, 1, none⟩ = some (.int .i64 f.params) := cqq hUr
   have hbl := qf4 (pl := pl) (r := (r : Int)) Hlen.out hnb f.blocks.length
   have hLe : askR f pl (r : Int) = akB f pl (r : Int) f.blocks.length ++ (if (r : Int) < f.params then [(r : Int)] else []) ++ ints 14 := by
    unfold askR akB
    rw [List.take_length]
   rw [hLe] at HR
   generalize akB f pl (r : Int) f.blocks.length = L at *
   obtain ⟨M1, hM1⟩ := nmm (L ++ (if (r : Int) < f.params then [(r : Int)] else []))
   rw [<- hM1] at HR
   have Hll : Hid (L.length ≤ 24000) := lh hbl
   obtain ⟨rA, rc, hsr⟩ := qn HO.out
   subst hsr
   clear hbl hLe hUr
   go_upto_if 79 with fail
   go_cut [9] (fun s9 wx => Hid (wx.ownsRow W2.heap.size 3 1 s9 M1.length (M1.flatMap qf)) ∧ Hid (Below W2.heap.size W2 wx))
   case first =>
    by_cases j1 : (r : Int) < f.params
    ·rw [if_pos j1] at hM1
     have HM1 := lh hM1
     clear hM1
     go_wp2_with (at_builtin; refine wpList_append_own _ rfl _ _ 26 rfl W2.heap.size 3 i0 _ 1 8 Tryz.underlying26 hi0 hz0 hz1 hz2 rfl (by decide) (.slice rA L.length rc) L.length (L.flatMap qf) rfl (HO.out.alloc _) ⟨wr.heap.size, 0, none⟩ 1 1 [.int .i64 ((r : Int))] rfl rfl ?_ ?_ ?_ ?_ ?_ ?_)
     any_goals have hll := Hll.out
     any_goals first | exact World.news_of_block (cs := #[.int .i64 ((r : Int))]) (t := 3) (fr := (0, 0)) (heap_alloc_new wr _) | (simp [Value.oneCell']; done) | (unfold maxLen; omega) | omega | (simp; done) | (simp; omega)
     intro v' w9 hown9 hgrow _
     have hbz : Below W2.heap.size W2 w9 := (Hb.out.alloc hzr (Obj.cells #[.int .i64 ((r : Int))] 3)).grown hgrow (by simp; omega) (fun j e => (HO.out.lt j e).1)
     have hO9 : w9.ownsRow W2.heap.size 3 1 v' (L ++ [((r : Int) : Int)]).length ((L ++ [((r : Int) : Int)]).flatMap qf) := by
      rw [List.length_append, List.flatMap_append]
      exact hown9
     obtain ⟨Hbz, HO9⟩ := lh2 hbz hO9
     clear hown9 hgrow hbz hO9 hll
     go_wp2
     go_meet
     exact ⟨by rw [HM1.out]; exact HO9, Hbz⟩
    ·rw [if_neg j1, List.append_nil] at hM1
     have HM1 := lh hM1
     clear hM1
     go_wp2
     go_meet
     exact ⟨by rw [HM1.out]; exact HO, Hb⟩
   case rest =>
    obtain ⟨HO6, Hb6⟩ := hcut
    rename World => W6
    have HM1l : Hid (M1.length ≤ 24001) := lh (by have := Hll.out; rw [hM1, List.length_append]; split <;> simp <;> omega)
    have HO60 : Hid (W6.ownsRow W2.heap.size 3 1 u9 (M1 ++ ints 0).length ((M1 ++ ints 0).flatMap qf)) := lh (by rw [show ints 0 = [] from rfl, List.append_nil]; exact HO6.out)
    clear x1 x3 lU hM1 HO6 HO Hll Hb
    go_wp2
    go_loopg [9, 13] 14 (fun gh s9 s13 wr => ∃ j : Nat, j ≤ 14 ∧ gh = 14 - j ∧ s13 = .int .i64 (j : Int) ∧ Hid (wr.ownsRow W2.heap.size 3 1 s9 (M1 ++ ints j).length ((M1 ++ ints j).flatMap qf)) ∧ Hid (Below W2.heap.size W2 wr))
    case atStart => exact ⟨0, by omega, rfl, rfl, HO60, Hb6⟩
    case round =>
     clear HO60 Hb6
     obtain ⟨j, hj, rfl, rfl, HO7, Hb7⟩ := hrel
     have hz7 := Hb7.out.size
     have j0 := nnn j
     obtain ⟨rB, rc2, hsr2⟩ := qn HO7.out
     subst hsr2
     by_cases hjl : j < 14
     ·have j1 : (j : Int) < 14 := by omega
      have hnx : M1 ++ ints (j + 1) = (M1 ++ ints j) ++ [(j : Int)] := by rw [q3s, List.append_assoc]
      have Hll : Hid ((M1 ++ ints j).length ≤ 24100) := lh (by rw [List.length_append, q1g]; have := HM1l.out; omega)
      generalize hK1 : M1 ++ ints j = K1 at *
      generalize hK2 : M1 ++ ints (j + 1) = K2 at *
      obtain ⟨HK2, Hnx⟩ := lh2 hK2 hnx
      clear hK1 hK2 hnx
      go_wp2_with (at_builtin; refine wpList_append_own _ rfl _ _ 26 rfl W2.heap.size 3 i0 _ 1 8 Tryz.underlying26 hi0 hz0 hz1 hz2 rfl (by decide) (.slice rB K1.length rc2) K1.length (K1.flatMap qf) rfl (HO7.out.alloc _) ⟨wr.heap.size, 0, none⟩ 1 1 [.int .i64 ((j : Int))] rfl rfl ?_ ?_ ?_ ?_ ?_ ?_)
      any_goals have hll := Hll.out
      any_goals first | exact World.news_of_block (cs := #[.int .i64 ((j : Int))]) (t := 3) (fr := (0, 0)) (heap_alloc_new wr _) | (simp [Value.oneCell']; done) | (unfold maxLen; omega) | omega | (simp; done) | (simp; omega)
      intro v' w9 hown9 hgrow _
      have hbz : Below W2.heap.size W2 w9 := (Hb7.out.alloc hz7 (Obj.cells #[.int .i64 ((j : Int))] 3)).grown hgrow (by simp; omega) (fun j e => (HO7.out.lt j e).1)
      have hO9 : w9.ownsRow W2.heap.size 3 1 v' (K1 ++ [((j : Int) : Int)]).length ((K1 ++ [((j : Int) : Int)]).flatMap qf) := by
       rw [List.length_append, List.flatMap_append]
       exact hown9
      obtain ⟨Hbz, HO9⟩ := lh2 hbz hO9
      clear hown9 hgrow hbz hO9 hll
      go_wp2
      go_roundg (14 - (j + 1))
      case measure => omega
      case rel => exact ⟨j + 1, by omega, rfl, by go_num, by rw [HK2.out, Hnx.out]; exact HO9, Hbz⟩
     ·obtain rfl : j = 14 := by omega
      have hfin := lh (HR.out wr _ (Hb2.out.trans (Hb7.out.mono Hb2.out.size)) (q0u HO7.out Hb2.out.size))
      go_wp2
      exact hfin.out
def q2i (f : UFun) (L : Nat -> Nat -> Int -> Bool) (n : Nat) : List (List (List Bool)) := (List.range n).map fun a => q08 f (fun i k => L i k ((a : Nat) : Int))
theorem q3c (f : UFun) (L : Nat -> Nat -> Int -> Bool) (n : Nat) : (q2i f L n).length = n := by simp [q2i]
theorem qa8 (f : UFun) (L : Nat -> Nat -> Int -> Bool) (n : Nat) : q2i f L (n + 1) = q2i f L n ++ [q08 f (fun i k => L i k (n : Int))] := by
 unfold q2i
 rw [List.range_succ, List.map_append]
 rfl
theorem qbh : (Tryz.prog.info? 78).map (fun i => (i.zero, i.size, i.bytes)) = some (some (.slice none 0 0), 1, 24) := by kernel_rfl
theorem q8t (L : Nat -> Nat -> Int -> Bool) (f : UFun) (n : Nat) (hn : f.regs = (n : Int)) (hn1 : n ≤ 100) (A : Option Addr) (c : Nat) (hlen : ∀ b ∈ f.blocks, b.list.length ≤ 300) (hnb : 1 ≤ f.blocks.length ∧ f.blocks.length ≤ 40) (hto : ∀ b ∈ f.blocks, ∀ t ∈ b.end_.to, 1 ≤ t ∧ t < (f.blocks.length : Int)) (hL : ∀ i k a, L i k a = true ↔ LvI f a i k) (w : World) (h : rpBlk.SL w w.heap.size f.blocks (.slice A f.blocks.length c)) (R : Ending -> World -> Prop)
 (hR : ∀ w' v, Below w.heap.size w w' -> rpBool.slice.slice.SLF w' w.heap.size w'.heap.size (q2i f L n) v -> R (.returned v) w') :
 Calls Tryz.prog 85 #[.agg #[.string f.name, .int .i64 f.params, .int .i64 f.regs, .slice A f.blocks.length c]] w R := by
 obtain ⟨iB, hiB, zB0, zB1, zB2⟩ := info_parts qbh
 obtain ⟨HR, Hs, Hlen, Hto, HL, Hnb, Hn⟩ := lh7 hR h hlen hto hL hnb hn
 clear hR h hlen hto hL hnb hn
 go_enter Tryz.func85, Tryz.ntmps85
 go_upto_region 1 with fail
 obtain ⟨W1, hW1, hb1, hU1⟩ := box1 w (.cells #[.string f.name, .int .i64 f.params, .int .i64 f.regs, .slice A f.blocks.length c] 56) rfl
 rw [<- hW1]
 obtain ⟨Hb1, HU1⟩ := lh2 hb1 hU1
 have Hs1 := lh (Hs.out.up hb1 hb1.size)
 have hz1 := hb1.size
 clear hW1 hb1 hU1 Hs
 go_wp2
 go_loopg [3, 4] n (fun gh s3 s4 wr => ∃ (k : Nat) (css : List (List Value)), k ≤ n ∧ gh = n - k ∧ s4 = .int .i64 (k : Int) ∧ Hid (Built rpBool.slice.slice W1.heap.size 78 (fun b => b < W1.heap.size) wr s3 (q2i f L k) css) ∧ Hid (Below W1.heap.size W1 wr))
 case atStart => exact ⟨0, [], Nat.zero_le _, rfl, rfl, lh (Built.nil _ _ _ _ _ (fun _ h => h)), lh (Below.refl _ _)⟩
 case round =>
  obtain ⟨k, css, hk, rfl, rfl, Hbu, Hbel⟩ := hrel
  have hz := Hbel.out.size
  have k0 := nnn k
  have hUr := (Hbel.out.block _ (qc HU1.out)).trans HU1.out
  have x0 : wr.cell? ⟨w.heap.size, 0, none⟩ = some (.string f.name) := cqq hUr
  have x1 : wr.cell? ⟨w.heap.size, 1, none⟩ = some (.int .i64 f.params) := cqq hUr
  have x2 : wr.cell? ⟨w.heap.size, 2, none⟩ = some (.int .i64 f.regs) := cqq hUr
  have x3 : wr.cell? ⟨w.heap.size, 3, none⟩ = some (.slice A f.blocks.length c) := cqq hUr
  have lU := qc hUr
  obtain ⟨A7, n7, hs7⟩ := qn Hbu.out.own
  rw [q3c] at hs7
  subst hs7
  by_cases hlt : k < n
  ·have k1 : (k : Int) < f.regs := by rw [Hn.out]; omega
   have Hsr := lh (Hs1.out.up Hbel.out hz)
   go_wp2_with fail
   refine q41 L f k A c Hlen.out Hnb.out Hto.out HL.out _ Hsr.out _ (fun w5 v5 hb5 hsl5 => ?_)
   obtain ⟨A5, c5, rfl, hm5, hcap5, hsl5⟩ := hsl5.cases_
   obtain ⟨T, hT⟩ : ∃ T, T = q08 f (fun i j => L i j (k : Int)) := ⟨_, rfl⟩
   have hnx := qa8 f L k
   rw [<- hT] at hnx hsl5 ⊢
   obtain ⟨m5, hm5e⟩ := nmm (T.length)
   rw [<- hm5e] at hsl5 ⊢
   have HCt := lh hnx
   obtain ⟨X, hX⟩ := nmm (Obj.cells #[.slice A5 m5 c5] 78)
   have HBu0 := lh ((Hbu.out.below hb5 (Nat.le_refl _)).alloc X)
   have HBo : Hid ((w5.alloc X).ownsRow W1.heap.size 78 1 (.slice A7 k n7) k css.flatten) := lh (by have := HBu0.out.own; rw [q3c] at this; exact this)
   have Hap : Hid (Apart rpBool.slice.slice (fun b => b < W1.heap.size) (w5.alloc X) (.slice A7 k n7) T [.slice A5 m5 c5]) := lh (Apart.of_only (base := wr.heap.size) ⟨_, rfl, by
    have h1 := hsl5.more (Nat.le_refl _) (by simp : w5.heap.size ≤ (w5.alloc X).heap.size)
    exact h1.below ((Below.refl _ _).alloc (Nat.le_refl _) X) (Nat.le_refl _)⟩ (fun j hj => by have hj : j < W1.heap.size := hj; omega) (fun j hj => (Hbu.out.own.lt j hj).2))
   have hz5 := hb5.size
   have HbX : Hid (Below wr.heap.size wr (w5.alloc X)) := lh (hb5.alloc hz5 X)
   subst hX
   clear hT hm5e hnx x0 x1 x2 x3 lU hUr hb5 hsl5
   go_wp2_with (at_builtin; refine wpList_append_lies _ rfl _ _ 129 rfl W1.heap.size 78 iB _ 1 24 Tryz.underlying129 hiB zB0 zB1 zB2 rfl (by decide) (.slice A7 k n7) k css.flatten rfl HBo.out ⟨w5.heap.size, 0, none⟩ 1 1 [.slice A5 m5 c5] rfl rfl ?_ ?_ (by decide) ?_ ?_ ?_ _ rfl ?_)
   any_goals (first | exact World.news_of_block (cs := #[.slice A5 m5 c5]) (t := 78) (fr := (0, 0)) (heap_alloc_new _ _) | (simp [Value.oneCell']; done) | (unfold maxLen; omega) | omega | (simp; done) | (simp; omega))
   intro gb cap w9 hown9 hgrow9 hat9 hlt9
   have HB9 := lh (HBu0.out.push hown9 (by rw [q3c]) hgrow9 (by simpa using hat9) Hap.out)
   have Hbel9 := lh (Hbel.out.trans ((HbX.out.mono hz).trans ((Grew.of_grown hgrow9).below (B := W1.heap.size) (fun i hi e => by have := (Hbu.out.own.lt i e).1; omega) (by simp; omega))))
   clear hown9 hgrow9 hat9 hlt9
   go_wp2
   go_roundg (n - (k + 1))
   case measure => omega
   case rel => exact ⟨k + 1, _, hlt, rfl, by go_num, lh (by rw [HCt.out]; exact HB9.out), Hbel9⟩
  ·obtain rfl : k = n := by omega
   have k1 : ¬ (k : Int) < f.regs := by rw [Hn.out]; omega
   have hsl : rpBool.slice.slice.SLF wr W1.heap.size wr.heap.size (q2i f L k) (.slice A7 k n7) := Hbu.out.SLF (fun k h => h) (Nat.le_refl _) (Nat.le_refl _)
   have hfin := lh (HR.out wr _ (Hb1.out.trans (Hbel.out.mono hz1)) (hsl.more hz1 (Nat.le_refl _)))
   clear hsl
   go_wp2
   exact hfin.out
def CrP (f : UFun) (L : Nat -> Nat -> Int -> Bool) (a b i k : Nat) : Prop := ∃ blk x, f.blocks[i]? = some blk ∧ blk.list[k]? = some x ∧ x.dst = (a : Int) ∧ L i (k + 1) (b : Int) = true ∧ (x.op ≠ 1 ∨ q1x x b = false)
def ClP (f : UFun) (L : Nat -> Nat -> Int -> Bool) (a b : Nat) : Prop := (L 0 0 (a : Int) = true ∧ L 0 0 (b : Int) = true) ∨ ∃ i k, CrP f L a b i k ∨ CrP f L b a i k
theorem q8j {u : Unt} {regs : Int} {x : UIns} (h : InsOk u regs x) (h1 : x.op = 1) (r : Nat) : q1x x r = isR x.a (r : Int) := by
 have hb := qbr (h.noB (by rw [h1]; rfl)) r
 have ha := (h.noArgs (by omega)).1
 unfold q1x
 rw [hb, ha]
 simp [qiz]
theorem q7b {u : Unt} {f : UFun} {L : Nat -> Nat -> Int -> Bool} (hf : FunOk u f) (hL : ∀ i k a, L i k a = true ↔ LvI f a i k) (a b : Nat) : q8r f (a : Int) (b : Int) ↔ ∃ i k, CrP f L a b i k := by
 constructor
 ·rintro ⟨i, k, blk, x, h1, h2, h3, h4, h5⟩
  refine ⟨i, k, blk, x, h1, h2, h3, (hL _ _ _).2 h4, ?_⟩
  by_cases h6 : x.op = 1
  ·right
   rw [q8j (hf.ins _ (List.mem_of_getElem? h1) _ (List.mem_of_getElem? h2)) h6]
   cases h7 : isR x.a (b : Int)
   ·rfl
   ·exact absurd ⟨h6, h7⟩ h5
  ·exact .inl h6
 ·rintro ⟨i, k, blk, x, h1, h2, h3, h4, h5⟩
  refine ⟨i, k, blk, x, h1, h2, h3, (hL _ _ _).1 h4, fun h6 => ?_⟩
  rcases h5 with h5 | h5
  ·exact h5 h6.1
  ·rw [q8j (hf.ins _ (List.mem_of_getElem? h1) _ (List.mem_of_getElem? h2)) h6.1, h6.2] at h5
   cases h5
theorem qf7 {u : Unt} {f : UFun} {L : Nat -> Nat -> Int -> Bool} (hf : FunOk u f) (hL : ∀ i k a, L i k a = true ↔ LvI f a i k) {a b : Nat} (hne : a ≠ b) : Clash f (a : Int) (b : Int) ↔ ClP f L a b := by
 unfold Clash ClP
 rw [q7b hf hL, q7b hf hL, hL, hL]
 constructor
 ·rintro ⟨_, _, _, h | ⟨i, k, h⟩ | ⟨i, k, h⟩⟩
  ·exact .inl h
  ·exact .inr ⟨i, k, .inl h⟩
  ·exact .inr ⟨i, k, .inr h⟩
 ·rintro (h | ⟨i, k, h | h⟩)
  ·exact ⟨by omega, by omega, by omega, .inl h⟩
  ·exact ⟨by omega, by omega, by omega, .inr (.inl ⟨i, k, h⟩)⟩
  ·exact ⟨by omega, by omega, by omega, .inr (.inr ⟨i, k, h⟩)⟩
theorem qbk {f : UFun} {L : Nat -> Nat -> Int -> Bool} {n B : Nat} {w : World} {A : Option Addr} {c : Nat} (h : rpBool.slice.slice.SL w B (q2i f L n) (.slice A n c)) {a i k : Nat} (ha : a < n) (hi : i < f.blocks.length) (hk : k ≤ lenB f i) :
 ∃ b1 o1 b2 o2 c2 b3 o3 c3, A = some ⟨b1, o1, none⟩ ∧ b1 < B ∧ b2 < B ∧ b3 < B ∧ w.cell? ⟨b1, o1 + a, none⟩ = some (.slice (some ⟨b2, o2, none⟩) f.blocks.length c2) ∧ w.cell? ⟨b2, o2 + i, none⟩ = some (.slice (some ⟨b3, o3, none⟩) (lenB f i + 1) c3) ∧ w.cell? ⟨b3, o3 + k, none⟩ = some (.bool (L i k (a : Int))) := by
 have e1 : (q2i f L n).length = n := q3c _ _ _
 obtain ⟨b1, o1, u1, hA, hb1, h1, hs1⟩ := q3e h (k := a) (by rw [e1]; exact ha)
 have g1 : (q2i f L n)[a]'(by rw [e1]; exact ha) = q08 f (fun i k => L i k (a : Int)) := by unfold q2i; simp
 rw [g1] at hs1
 have e2 : (q08 f (fun i k => L i k (a : Int))).length = f.blocks.length := by unfold q08; simp
 obtain ⟨A2, c2, rfl, _, _, hs1⟩ := hs1.cases_
 rw [e2] at h1 hs1
 obtain ⟨b2, o2, u2, rfl, hb2, h2, hs2⟩ := q3e hs1 (k := i) (by rw [e2]; exact hi)
 have g2 : (q08 f (fun i k => L i k (a : Int)))[i]'(by rw [e2]; exact hi) = (List.range (lenB f i + 1)).map fun k => L i k (a : Int) := by unfold q08; simp
 rw [g2] at hs2
 have e3 : ((List.range (lenB f i + 1)).map fun k => L i k (a : Int)).length = lenB f i + 1 := by simp
 obtain ⟨A3, c3, rfl, _, _, hs2⟩ := hs2.cases_
 rw [e3] at h2 hs2
 obtain ⟨b3, o3, rfl, hb3, h3⟩ := hs2.bool_at (k := k) (by rw [e3]; omega)
 have g3 : bAt ((List.range (lenB f i + 1)).map fun k => L i k (a : Int)) k = L i k (a : Int) := by
  unfold bAt
  rw [List.getD_eq_getElem?_getD, List.getElem?_map, List.getElem?_range (by omega)]
  rfl
 rw [g3] at h3
 exact ⟨b1, o1, b2, o2, c2, b3, o3, c3, hA, hb1, hb2, hb3, h1, h2, h3⟩
theorem q7y (L : Nat -> Nat -> Int -> Bool) (f : UFun) (n a b : Nat) (ha : a < n) (hb : b < n) (hn1 : n ≤ 100) (A : Option Addr) (c : Nat) (vA : Option Addr) (vc : Nat) (hlen : ∀ b ∈ f.blocks, b.list.length ≤ 300) (hnb : 1 ≤ f.blocks.length ∧ f.blocks.length ≤ 40) (w : World) (h : rpBlk.SL w w.heap.size f.blocks (.slice A f.blocks.length c)) (hv : rpBool.slice.slice.SL w w.heap.size (q2i f L n) (.slice vA n vc)) (R : Ending -> World -> Prop)
 (hR : ∀ w' q, Below w.heap.size w w' -> (q = true ↔ ClP f L a b) -> R (.returned (.bool q)) w') :
 Calls Tryz.prog 86 #[.agg #[.string f.name, .int .i64 f.params, .int .i64 f.regs, .slice A f.blocks.length c], .slice vA n vc, .int .i64 (a : Int), .int .i64 (b : Int)] w R := by
 obtain ⟨HR, Hs, Hv, Hlen⟩ := lh4 hR h hv hlen
 obtain ⟨hnb1, hnb2⟩ := hnb
 have a0 := nnn a
 have a1 : (a : Int) < (n : Int) := by omega
 have b0 := nnn b
 have b1 : (b : Int) < (n : Int) := by omega
 clear hR h hv hlen
 go_enter Tryz.func86, Tryz.ntmps86
 go_upto_region 1 with fail
 obtain ⟨W2, hW2, hb2, hU2⟩ := box1 w (.cells #[.string f.name, .int .i64 f.params, .int .i64 f.regs, .slice A f.blocks.length c] 56) rfl
 rw [<- hW2]
 obtain ⟨Hb2, HU2⟩ := lh2 hb2 hU2
 have Hs2 := lh (Hs.out.up hb2 hb2.size)
 have Hv2 := lh (Hv.out.up hb2 hb2.size)
 clear hW2 hb2 hU2 Hs Hv
 obtain ⟨q0, hq0⟩ : ∃ q, q = (L 0 0 (a : Int) && L 0 0 (b : Int)) := ⟨_, rfl⟩
 have Hq0 := lh hq0
 clear hq0
 go_cut [30] (fun s wx => s = .bool q0 ∧ wx = W2)
 case first =>
  obtain ⟨p1, o1, p2, o2, c2, p3, o3, c3, rfl, l1, l2, l3, x1, x2, x3⟩ := qbk Hv2.out ha (i := 0) (k := 0) (by omega) (Nat.zero_le _)
  obtain ⟨p4, o4, p5, o5, c5, p6, o6, c6, hA6, l4, l5, l6, y1, y2, y3⟩ := qbk Hv2.out hb (i := 0) (k := 0) (by omega) (Nat.zero_le _)
  injection hA6 with hA6
  injection hA6 with e1 e2
  subst e1 e2
  obtain ⟨n1, hn1⟩ := nmm (lenB f 0 + 1)
  have hn0 : (0 : Int) < (n1 : Int) := by rw [hn1]; exact Int.natCast_pos.2 (Nat.succ_pos _)
  have hm0 : (0 : Int) < (f.blocks.length : Int) := by omega
  rw [<- hn1] at x2 y2
  rw [Nat.add_zero] at x2 x3 y2 y3
  generalize L 0 0 (a : Int) = la at *
  generalize L 0 0 (b : Int) = lb at *
  clear hn1
  cases la
  ·go_wp2
   go_meet
   exact ⟨by rw [Hq0.out]; rfl, rfl⟩
  ·go_wp2
   go_meet
   exact ⟨by rw [Hq0.out]; rfl, rfl⟩
 case rest =>
  obtain ⟨rfl, hw⟩ := hcut
  subst hw
  rename World => W2
  cases q0
  ·have hq0 : ¬ (L 0 0 (a : Int) = true ∧ L 0 0 (b : Int) = true) := fun h => by
    have := Hq0.out
    rw [h.1, h.2] at this
    cases this
   have Hq1 := lh hq0
   have hN0 : Hid (∀ i k, i < 0 -> ¬ CrP f L a b i k ∧ ¬ CrP f L b a i k) := lh fun i k h => absurd h (Nat.not_lt_zero i)
   clear hq0
   go_wp2
   go_loopg [2, 3, 9] f.blocks.length (fun gh s2 s3 s9 wr => ∃ i : Nat, i ≤ f.blocks.length ∧ gh = f.blocks.length - i ∧ s2 = .int .i64 (a : Int) ∧ s3 = .int .i64 (b : Int) ∧ s9 = .int .i64 (i : Int) ∧ Hid (∀ j k, j < i -> ¬ CrP f L a b j k ∧ ¬ CrP f L b a j k) ∧ Hid (Below W2.heap.size W2 wr))
   case atStart => exact ⟨0, Nat.zero_le _, rfl, rfl, rfl, rfl, hN0, lh (Below.refl _ _)⟩
   case round =>
    clear hN0
    obtain ⟨i, hi, rfl, rfl, rfl, rfl, HN, Hb⟩ := hrel
    have hzr := Hb.out.size
    have i1 := nnn i
    have hUr := (Hb.out.block _ (qc HU2.out)).trans HU2.out
    have x3 : wr.cell? ⟨w.heap.size, 3, none⟩ = some (.slice A f.blocks.length c) := cqq hUr
    have lU := qc hUr
    by_cases hlt : i < f.blocks.length
    ·have i2 : (i : Int) < (f.blocks.length : Int) := by omega
     obtain ⟨bb, off, vp, vl, vt, rfl, hbb, _, hl, _, _, q1, _, _, _, _⟩ := Hs2.out.blk_at hlt
     obtain ⟨Al, cl, rfl, hlm, _, hl⟩ := hl.cases_
     have hge : f.blocks[i]? = some f.blocks[i] := List.getElem?_eq_getElem hlt
     have hll := Hlen.out _ (List.getElem_mem hlt)
     have hle := q7g hlt
     generalize f.blocks[i] = bk at *
     obtain ⟨Hl, Hge, Hle, Hq2, HU⟩ := lh5 hl hge hle q1 hUr
     have HM0 : Hid (∀ k, k < 0 -> ¬ CrP f L a b i k ∧ ¬ CrP f L b a i k) := lh fun k h => absurd h (Nat.not_lt_zero k)
     obtain ⟨wo, hwo⟩ := nmm (wr)
     rw [<- hwo] at HU Hb hzr x3 lU ⊢
     clear hwo hge hle q1 hUr hl
     go_wp2
     clear x3 lU
     go_loopg [2, 3, 10] bk.list.length (fun gh s2 s3 s10 wr => ∃ k : Nat, k ≤ bk.list.length ∧ gh = bk.list.length - k ∧ s2 = .int .i64 (a : Int) ∧ s3 = .int .i64 (b : Int) ∧ s10 = .int .i64 (k : Int) ∧ Hid (∀ m, m < k -> ¬ CrP f L a b i m ∧ ¬ CrP f L b a i m) ∧ Hid (Below wo.heap.size wo wr))
     case atStart => exact ⟨0, Nat.zero_le _, rfl, rfl, rfl, rfl, HM0, lh (Below.refl _ _)⟩
     case round =>
      clear HM0
      obtain ⟨k, hk, rfl, rfl, rfl, rfl, HM, Hb3⟩ := hrel
      have hzr3 := Hb3.out.size
      have Hb4 := lh (Hb.out.trans (Hb3.out.mono hzr))
      have k1 := nnn k
      have hUr := (Hb3.out.block _ (qc HU.out)).trans HU.out
      have x3 : wr.cell? ⟨w.heap.size, 3, none⟩ = some (.slice (some ⟨bb, off, none⟩) f.blocks.length c) := cqq hUr
      have lU := qc hUr
      have p1 := (Hb4.out.cell (p := ⟨bb, off + i * 6 + 1, none⟩) hbb).trans Hq2.out
      have lbb : bb < wr.heap.size := by omega
      by_cases hltk : k < bk.list.length
      ·have k2 : (k : Int) < (bk.list.length : Int) := by omega
       have HlR := lh (Hl.out.up Hb4.out (by omega : W2.heap.size ≤ wr.heap.size))
       obtain ⟨b5, off5, va, rfl, hb5, hva, e0, e1, e2, e3, e4, e5, e6, e7⟩ := HlR.out.ins_at hltk
       obtain ⟨Aa, ca, rfl, ham, _, hva⟩ := hva.cases_
       have hxk : bk.list[k]? = some bk.list[k] := List.getElem?_eq_getElem hltk
       generalize bk.list[k] = x at *
       have Hxk := lh hxk
       obtain ⟨E, hE⟩ := nmm (wr.heap.size)
       obtain ⟨W5, hW5, hb5, hX5⟩ := box1 wr (.cells #[.int .i64 x.op, .int .i64 x.dst, .bool x.a.reg, .int .i64 x.a.n, .bool x.b.reg, .int .i64 x.b.n, .int .i64 x.fn, .slice Aa x.args.length ca] 71) hE
       have hz55 := hb5.size
       have Hb5 := btt Hb3 hb5 hzr3
       have HX5 := lh hX5
       have Hva5 := lh (hva.up hb5 hb5.size)
       have Hv5 := lh (Hv2.out.up (Hb4.out.trans (hb5.mono (by omega))) (by omega : W2.heap.size ≤ W5.heap.size))
       have HW5 := lh hW5.symm
       have HEe := lh hE
       clear hb5 hX5 hW5 hE hxk hva hUr
       go_upto_region 10 with fail
       rw [<- HEe.out, HW5.out]
       clear e0 e1 e2 e3 e4 e5 e6 e7 x3 lU p1 lbb
       have Hcd : Hid (∀ p q : Nat, CrP f L p q i k ↔ (x.dst = (p : Int) ∧ L i (k + 1) (q : Int) = true ∧ (x.op ≠ 1 ∨ q1x x q = false))) := lh fun p q => by
        unfold CrP
        constructor
        ·rintro ⟨blk, y, h1, h2, h3⟩
         rw [Hge.out] at h1
         injection h1 with h1
         subst h1
         rw [Hxk.out] at h2
         injection h2 with h2
         subst h2
         exact h3
        ·exact fun h3 => ⟨_, _, Hge.out, Hxk.out, h3⟩
       go_wp2
       go_loopg [2, 3, 12] 2 (fun gh s2 s3 s12 wr => ∃ j p q : Nat, j ≤ 2 ∧ gh = 2 - j ∧ s2 = .int .i64 (p : Int) ∧ s3 = .int .i64 (q : Int) ∧ s12 = .int .i64 (j : Int) ∧ ((j = 1 ∧ p = b ∧ q = a) ∨ (j ≠ 1 ∧ p = a ∧ q = b)) ∧ Hid ((1 ≤ j -> ¬ CrP f L a b i k) ∧ (2 ≤ j -> ¬ CrP f L b a i k)) ∧ Hid (Below W5.heap.size W5 wr))
       case atStart => exact ⟨0, a, b, Nat.zero_le _, rfl, rfl, rfl, rfl, .inr ⟨by decide, rfl, rfl⟩, lh ⟨fun h => absurd h (by decide), fun h => absurd h (by decide)⟩, lh (Below.refl _ _)⟩
       case round =>
        obtain ⟨j, p, q, hj, rfl, rfl, rfl, rfl, hpq, HJ, Hb7⟩ := hrel
        have hz7 := Hb7.out.size
        have j0 := nnn j
        have lX5 := qc HX5.out
        have hX7 := (Hb7.out.block _ lX5).trans HX5.out
        by_cases hjl : j < 2
        ·have j1 : (j : Int) < 2 := by omega
         have hpn : p < n := by omega
         have hqn : q < n := by omega
         have Hv7 := lh (Hv5.out.up Hb7.out hz7)
         have Hva7 := lh (Hva5.out.up Hb7.out hz7)
         have hkl : k + 1 ≤ lenB f i := by rw [Hle.out]; exact hltk
         obtain ⟨kk, hkk⟩ := nmm (k + 1)
         have ek : (k : Int) + 1 = (kk : Int) := by omega
         have hcd := Hcd.out p q
         rw [<- hkk] at hkl hcd
         obtain ⟨p1, o1, p2, o2, c2, p3, o3, c3, rfl, l1, l2, l3, x1, x2, x3⟩ := qbk Hv7.out hqn hlt hkl
         obtain ⟨n1, hn1'⟩ := nmm (lenB f i + 1)
         have hk0 := nnn kk
         have hkn : (kk : Int) < (n1 : Int) := by rw [hn1']; exact Int.ofNat_lt.2 (Nat.lt_succ_of_le hkl)
         rw [<- hn1'] at x2
         have q0 := nnn q
         have q1 : (q : Int) < (n : Int) := Int.ofNat_lt.2 hqn
         have d0 : wr.cell? ⟨E, 0, none⟩ = some (.int .i64 x.op) := cqq hX7
         have d1 : wr.cell? ⟨E, 1, none⟩ = some (.int .i64 x.dst) := cqq hX7
         have d2 : wr.cell? ⟨E, 2, none⟩ = some (.bool x.a.reg) := cqq hX7
         have d3 : wr.cell? ⟨E, 3, none⟩ = some (.int .i64 x.a.n) := cqq hX7
         have d4 : wr.cell? ⟨E, 4, none⟩ = some (.bool x.b.reg) := cqq hX7
         have d5 : wr.cell? ⟨E, 5, none⟩ = some (.int .i64 x.b.n) := cqq hX7
         have d6 : wr.cell? ⟨E, 6, none⟩ = some (.int .i64 x.fn) := cqq hX7
         have d7 : wr.cell? ⟨E, 7, none⟩ = some (.slice Aa x.args.length ca) := cqq hX7
         have lE := qc hX7
         have Htk := lh (q6v x Aa ca q wr Hva7.out)
         generalize L i kk (q : Int) = lv at *
         generalize q1x x q = tk at *
         obtain ⟨z, hz⟩ : ∃ z : Bool, z = true ↔ CrP f L p q i k := by
          by_cases hh : CrP f L p q i k
          ·exact ⟨true, by simp [hh]⟩
          ·exact ⟨false, by simp [hh]⟩
         have hz' := hz.trans hcd
         obtain ⟨Hz, Hz'⟩ := lh2 hz hz'
         clear hX7 hn1' hkk hcd hz hz' Hv7 Hva7
         go_upto_region 13 with fail
         go_cut [89] (fun s wx => s = .bool z ∧ Hid (Below wr.heap.size wr wx))
         case first =>
          by_cases h1 : x.dst = (p : Int)
          ·have g1 : (x.dst == (p : Int)) = true := by simpa using h1
           cases lv
           ·have hz0 : z = false := by
             cases hzz : z
             ·rfl
             ·have := Hz'.out.1 hzz
              cases this.2.1
            subst hz0
            clear h1
            go_wp2
            go_meet
            exact ⟨rfl, lh (Below.refl _ _)⟩
           ·by_cases h2 : x.op = 1
            ·have g2 : (x.op == 1) = true := by simpa using h2
             have g3 : (x.op != 1) = false := by simpa using h2
             have hz0 : z = !tk := by
              rw [Bool.eq_iff_iff, Hz'.out, Bool.not_eq_true']
              exact ⟨fun h => h.2.2.resolve_left (fun h3 => h3 h2), fun h => ⟨h1, rfl, .inr h⟩⟩
             clear h1 h2
             go_wp2_with fail
             refine Htk.out _ (fun w8 hb8 => ?_)
             obtain ⟨Hb8, Hz0⟩ := lh2 hb8 hz0
             clear hb8 hz0 d0 d1 d2 d3 d4 d5 d6 d7 lE x1 x2 x3
             cases tk
             ·go_wp2
              go_meet
              exact ⟨by rw [Hz0.out]; rfl, Hb8⟩
             ·go_wp2
              go_meet
              exact ⟨by rw [Hz0.out]; rfl, Hb8⟩
            ·have g2 : (x.op == 1) = false := by simpa using h2
             have g3 : (x.op != 1) = true := by simpa using h2
             have hz0 : z = true := Hz'.out.2 ⟨h1, rfl, .inl h2⟩
             subst hz0
             clear h1 h2
             go_wp2
             go_meet
             exact ⟨rfl, lh (Below.refl _ _)⟩
          ·have g1 : (x.dst == (p : Int)) = false := by simpa using h1
           have hz0 : z = false := by
            cases hzz : z
            ·rfl
            ·exact absurd (Hz'.out.1 hzz).1 h1
           subst hz0
           clear h1
           go_wp2
           go_meet
           exact ⟨rfl, lh (Below.refl _ _)⟩
         case rest =>
          obtain ⟨rfl, Hb8⟩ := hcut
          rename World => w8
          have Hb9 := lh (Hb7.out.trans (Hb8.out.mono hz7))
          clear d0 d1 d2 d3 d4 d5 d6 d7 lE x1 x2 x3
          cases z
          ·have hno : ¬ CrP f L p q i k := fun h => by
            have := Hz.out.2 h
            cases this
           have HJ2 : Hid ((1 ≤ j + 1 -> ¬ CrP f L a b i k) ∧ (2 ≤ j + 1 -> ¬ CrP f L b a i k)) := lh (by
            rcases hpq with ⟨h1, h2, h3⟩ | ⟨h1, h2, h3⟩
            ·subst h2 h3
             exact ⟨fun _ => HJ.out.1 (by omega), fun _ => hno⟩
            ·subst h2 h3
             exact ⟨fun _ => hno, fun h4 => absurd h4 (by omega)⟩)
           clear HJ hno
           go_wp2
           go_roundg (2 - (j + 1))
           case measure => omega
           case rel => exact ⟨j + 1, q, p, hjl, rfl, rfl, rfl, by go_num, by omega, HJ2, Hb9⟩
          ·have hfin := lh (HR.out w8 true (Hb2.out.trans ((Hb.out.trans ((Hb5.out.trans (Hb9.out.mono (by omega))).mono hzr)).mono Hb2.out.size)) ⟨fun _ => .inr ⟨i, k, by
            have h0 := Hz.out.1 rfl
            rcases hpq with ⟨h1, h2, h3⟩ | ⟨h1, h2, h3⟩
            ·subst h2 h3
             exact .inr h0
            ·subst h2 h3
             exact .inl h0⟩, fun _ => rfl⟩)
           go_wp2
           exact hfin.out
        ·obtain rfl : j = 2 := by omega
         have hpq2 : p = a ∧ q = b := by omega
         obtain ⟨rfl, rfl⟩ := hpq2
         have HM2 : Hid (∀ m, m < k + 1 -> ¬ CrP f L p q i m ∧ ¬ CrP f L q p i m) := lh fun m hm => by
          rcases Nat.lt_or_ge m k with h1 | h1
          ·exact HM.out m h1
          ·have e : m = k := by omega
           subst e
           exact ⟨HJ.out.1 (by decide), HJ.out.2 (by decide)⟩
         have Hb8 := lh (Hb5.out.trans (Hb7.out.mono (by omega)))
         clear HJ HM
         go_wp2
         go_roundg (bk.list.length - (k + 1))
         case measure => omega
         case rel => exact ⟨k + 1, hltk, rfl, rfl, rfl, by go_num, HM2, Hb8⟩
      ·obtain rfl : k = bk.list.length := by omega
       have k2 : ¬ (bk.list.length : Int) < (bk.list.length : Int) := by omega
       have HN2 : Hid (∀ j k, j < i + 1 -> ¬ CrP f L a b j k ∧ ¬ CrP f L b a j k) := lh fun j k hj => by
        rcases Nat.lt_or_ge j i with h1 | h1
        ·exact HN.out j k h1
        ·have e : j = i := by omega
         subst e
         rcases Nat.lt_or_ge k bk.list.length with h2 | h2
         ·exact HM.out k h2
         ·constructor
          all_goals
           rintro ⟨blk, y, h3, h4, _⟩
           rw [Hge.out] at h3
           injection h3 with h3
           subst h3
           rw [List.getElem?_eq_none h2] at h4
           cases h4
       clear HM HN
       go_wp2
       go_roundg (f.blocks.length - (i + 1))
       case measure => omega
       case rel => exact ⟨i + 1, hlt, rfl, rfl, rfl, by go_num, HN2, Hb4⟩
    ·obtain rfl : i = f.blocks.length := by omega
     have i2 : ¬ (f.blocks.length : Int) < (f.blocks.length : Int) := by omega
     have hfin := lh (HR.out wr false (Hb2.out.trans (Hb.out.mono Hb2.out.size)) ⟨fun h => (by cases h), fun h => by
      rcases h with h | ⟨j, k, h⟩
      ·exact absurd h Hq1.out
      ·have hj : j < f.blocks.length := by
        rcases h with ⟨blk, y, h3, _⟩ | ⟨blk, y, h3, _⟩ <;> exact (List.getElem?_eq_some_iff.1 h3).1
       rcases h with h | h
       ·exact absurd h (HN.out j k hj).1
       ·exact absurd h (HN.out j k hj).2⟩)
     clear HN
     go_wp2
     exact hfin.out
  ·have hfin := lh (HR.out W2 true Hb2.out ⟨fun _ => .inl (by
    have := Hq0.out.symm
    rwa [Bool.and_eq_true] at this), fun _ => rfl⟩)
   go_wp2
   exact hfin.out
theorem q2b (u : Unt) (hu : UntI u) (k : Int) (gA fA : Option Addr) (gn gc fn fc : Nat) (w : World) (hW : Ways w) (hg : rpGlobal.SL w w.heap.size u.globals (.slice gA gn gc)) (hf : rpFun.SL w w.heap.size u.funcs (.slice fA fn fc)) (R : Ending -> World -> Prop)
 (hR : ∀ w', Below w.heap.size w w' -> R (.returned (.agg #[.int .i64 (q0q u k).1, .int .i64 (q0q u k).2])) w') :
 Calls Tryz.prog 84 #[.agg #[.slice gA gn gc, .slice fA fn fc], .int .i64 k] w R := by
 have e2 := hf.len
 subst e2
 obtain ⟨HR, Hg, Hf, HW⟩ := lh4 hR hg hf hW
 clear hR hg hf hW
 go_enter Tryz.func84, Tryz.ntmps84
 go_upto_region 1 with fail
 obtain ⟨W2, hW2, hb2, hU2, hF2⟩ := box2 w (.cells #[.slice gA gn gc, .slice fA u.funcs.length fc] 25) (.cells #[.int .i64 0, .int .i64 0] 30) rfl
 rw [<- hW2]
 obtain ⟨Hb2, HU2, HF2⟩ := lh3 hb2 hU2 hF2
 have hz2 := hb2.size
 obtain ⟨u0, u1, lU⟩ := cbl hU2
 clear hW2 hb2 hU2 hF2
 go_wp2_with fail
 refine q4w u hu _ _ _ _ _ _ _ (HW.out.up Hb2.out HW.out.1) (Hg.out.up Hb2.out hz2) (Hf.out.up Hb2.out hz2) _ (fun w3 hb3 => ?_)
 have Hb3 := btt Hb2 hb3 hz2
 have HU3 := bkk hb3 HU2
 have HF3 := bkk hb3 HF2
 have hz3 := Hb3.out.size
 clear hb3 u0 u1 lU
 obtain ⟨⟨c, a⟩, hca⟩ : ∃ p, p = qp u := ⟨_, rfl⟩
 rw [<- hca]
 dsimp only
 obtain ⟨E, hE⟩ := nmm (w3.heap.size)
 obtain ⟨W4, hW4, hb34, hE4⟩ := box1 w3 (.cells #[.int .i64 c, .int .i64 a] 30) hE
 have Hb4 := btt Hb3 hb34 hz3
 have HU4 := bkk hb34 HU3
 have HF4 := bkk hb34 HF3
 have HW4 := lh hW4.symm
 have HEs : Hid (w.heap.size + 1 < E) := lh (by rw [hE]; exact qc HF3.out)
 obtain ⟨HEe, HE4, Hca⟩ := lh3 hE hE4 hca
 clear hW4 hb34 hE4 hE hca
 obtain ⟨e0, e1, lE⟩ := cbl HE4.out
 obtain ⟨f0, f1, lF⟩ := cbl HF4.out
 obtain ⟨u0, u1, lU⟩ := cbl HU4.out
 have y0 := fzz HF4.out 0
 have y1 := fzz HF4.out 1
 have n1 : w.heap.size + 1 ≠ E := by have := HEs.out; omega
 have n2 : E ≠ w.heap.size + 1 := by omega
 go_upto_region 2 with fail
 rw [<- HEe.out, HW4.out]
 by_cases hz : c = 0
 ·have hok : qp u = (0, 0) := by
   apply Classical.byContradiction
   intro hn
   have := q77 hn
   rw [<- Hca.out] at this
   exact this hz
  subst hz
  have e0' : q0q u k = if ¬ (0 ≤ k ∧ k ≤ (u.funcs.length : Int) - 1) then ((3 : Int), (-1 : Int)) else match u.funcs[k.toNat]? with
   | none => (0, 0)
   | some f => if f.blocks.any q1d = true then (11, k) else (0, 0) := by
   unfold q0q
   rw [hok, if_neg (fun h => h rfl)]
   rfl
  rw [e0'] at HR
  clear e0'
  have h10 := q5u hok
  have Hbl3 := lh (qr Hb4.out [(⟨w.heap.size + 1, 0, none⟩, .int .i64 3), (⟨w.heap.size + 1, 1, none⟩, .int .i64 (-1))] (by simp))
  have Hbl0 := lh (qr Hb4.out [(⟨w.heap.size + 1, 0, none⟩, .int .i64 0), (⟨w.heap.size + 1, 1, none⟩, .int .i64 0)] (by simp))
  rcases (show k < 0 ∨ (0 ≤ k ∧ (u.funcs.length : Int) ≤ k) ∨ (0 ≤ k ∧ k < (u.funcs.length : Int)) by omega) with hk | ⟨hk0, hk⟩ | ⟨hk0, hk⟩
  ·rw [if_pos (by omega)] at HR
   dsimp only at HR
   go_wp2
   refine bodyPost_ret (v := (.agg #[.int .i64 (((3 : Int), (-1 : Int))).1, .int .i64 (((3 : Int), (-1 : Int))).2])) (by simp [results, Tryz.results84, go_sem, f0, f1, lF]) rfl ?_
   exact HR.out _ Hbl3.out
  ·rw [if_pos (by omega)] at HR
   dsimp only at HR
   have hnk : ¬ k < 0 := by omega
   go_wp2
   refine bodyPost_ret (v := (.agg #[.int .i64 (((3 : Int), (-1 : Int))).1, .int .i64 (((3 : Int), (-1 : Int))).2])) (by simp [results, Tryz.results84, go_sem, f0, f1, lF]) rfl ?_
   exact HR.out _ Hbl3.out
  ·rw [if_neg (by omega)] at HR
   obtain ⟨n, rfl⟩ : ∃ n : Nat, k = (n : Int) := ⟨k.toNat, by omega⟩
   have hn : n < u.funcs.length := by omega
   have hge : u.funcs[((n : Int)).toNat]? = some u.funcs[n] := List.getElem?_eq_getElem hn
   rw [hge] at HR
   dsimp only at HR
   clear hge
   obtain ⟨b, off, vb, rfl, hbl, hsl, q0, q1, q2, q3⟩ := Hf.out.fun_at hn
   obtain ⟨vA, vc, rfl, hm, _, hsl⟩ := hsl.cases_
   have Hsl := lh (hsl.up Hb4.out Hb4.out.size)
   have p3 := (Hb4.out.cell (p := ⟨b, off + n * 4 + 3, none⟩) hbl).trans q3
   have lb3 : b < W4.heap.size := by have := Hb4.out.size; omega
   have hnk : ¬ (n : Int) < 0 := by omega
   generalize u.funcs[n].blocks = xs at *
   clear hsl q0 q1 q2 q3
   go_wp2
   go_loopg [6] xs.length (fun gh s6 wr => ∃ j : Nat, j ≤ xs.length ∧ gh = xs.length - j ∧ s6 = .int .i64 (j : Int) ∧ Hid ((xs.take j).any q1d = false) ∧ wr = W4)
   case atStart => exact ⟨0, Nat.zero_le _, rfl, rfl, lh rfl, rfl⟩
   case round =>
    obtain ⟨j, hj, rfl, rfl, Hn, rfl⟩ := hrel
    have i1 := nnn j
    by_cases hlt : j < xs.length
    ·have i2 : (j : Int) < (xs.length : Int) := by omega
     obtain ⟨b2, off2, vp, vl, vt, rfl, hbb, hp, _, _, c0, _, _, _, _, _⟩ := Hsl.out.blk_at hlt
     obtain ⟨Ap, cp, rfl, _, _, _⟩ := hp.cases_
     have hst := q6m q1d hlt
     rw [Hn.out, Bool.false_or] at hst
     have hof : q1d xs[j] = true -> xs.any q1d = true := fun hp => q72 (p := q1d) hlt hp
     have hdf : q1d xs[j] = decide (0 < xs[j].phis.length) := rfl
     rw [hdf] at hst hof
     generalize xs[j].phis.length = np at *
     obtain ⟨Hst, Hof⟩ := lh2 hst hof
     clear hst hof hdf hp
     by_cases h1 : 0 < np
     ·have j1 : (0 : Int) < (np : Int) := by omega
      rw [if_pos (Hof.out (decide_eq_true h1))] at HR
      dsimp only at HR
      have Hbl := lh (qr Hb4.out [(⟨w.heap.size + 1, 0, none⟩, .int .i64 11), (⟨w.heap.size + 1, 1, none⟩, .int .i64 (n : Int))] (by simp))
      go_wp2
      refine bodyPost_ret (v := (.agg #[.int .i64 (((11 : Int), (n : Int))).1, .int .i64 (((11 : Int), (n : Int))).2])) (by simp [results, Tryz.results84, go_sem, f0, f1, lF]) rfl ?_
      exact HR.out _ Hbl.out
     ·have j1 : ¬ (0 : Int) < (np : Int) := by omega
      have Hn2 := Hst
      rw [decide_eq_false h1] at Hn2
      have hnp : np = 0 := by omega
      subst hnp
      go_wp2
      go_roundg (xs.length - (j + 1))
      case measure => omega
      case rel => exact ⟨j + 1, hlt, rfl, by go_num, Hn2, rfl⟩
    ·obtain rfl : j = xs.length := by omega
     have i2 : ¬ (xs.length : Int) < (xs.length : Int) := by omega
     rw [List.take_length] at Hn
     rw [if_neg (by rw [Hn.out]; decide)] at HR
     dsimp only at HR
     go_wp2
     refine bodyPost_ret (v := (.agg #[.int .i64 (((0 : Int), (0 : Int))).1, .int .i64 (((0 : Int), (0 : Int))).2])) (by simp [results, Tryz.results84, go_sem, f0, f1, lF]) rfl ?_
     exact HR.out _ Hbl0.out
 ·have e0' : q0q u k = (c, a) := by
   unfold q0q
   rw [<- Hca.out, if_pos (fun h => hz (congrArg Prod.fst h))]
  rw [e0'] at HR
  clear e0'
  dsimp only at HR
  have Hbl := lh (qr Hb4.out [(⟨w.heap.size + 1, 0, none⟩, .int .i64 c), (⟨w.heap.size + 1, 1, none⟩, .int .i64 a)] (by simp))
  go_wp2
  refine bodyPost_ret (v := (.agg #[.int .i64 ((c, a)).1, .int .i64 ((c, a)).2])) (by simp [results, Tryz.results84, go_sem, f0, f1, lF]) rfl ?_
  exact HR.out _ Hbl.out
end Go.Proofs.YtdanebboiekieaaGreatDoor
