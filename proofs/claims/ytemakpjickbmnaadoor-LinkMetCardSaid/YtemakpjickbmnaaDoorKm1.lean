/- turnerykit's functions around the machine: Input, Comes, Alone, Sure. -/
import Derived.Test.YtemakpjickbmnaaDoorBase
import Derived.Test.YtemakpjickbmnaaDoorRows
import Derived.IntWalk
import Derived.Outline
import Derived.Deep.LoopGhost
import Derived.Deep.RegionLaw
import Derived.Test.YtemakpjickbmnaaDoorMachD
import Derived.Test.YtemakpjickbmnaaDoorLinkR
import Derived.Test.YtemakpjickbmnaaDoorKitX
import Derived.Test.YtemakpjickbmnaaDoorKitW
namespace Go.Proofs.YtemakpjickbmnaaDoor
open Go.RowKit
set_option linter.unusedSimpArgs false
set_option linter.unusedVariables false

/-- append of one int, held in a block, onto a row of the call's own. -/
theorem app_int {ops : Array Oper} {rest : List Oper} {o : Oper} {a : Act} {w : World} {Q : Exit → Act → World → Prop} (hgd : o.guard = none) (s x : Operand) (ho : o.op = .call { callee := .builtin .append, args := #[s, x], argTypes := #[22, 22] })
    {base n : Nat} {v : Value} {xs : List Int} (hs : a.eval s = v) (hn : xs.length = n) (hown : w.ownsRow base 3 1 v n (xs.flatMap intCells)) (g : Nat) (y : Int) (hx : a.eval x = .slice (some ⟨g, 0, none⟩) 1 1) (hg : w.heap[g]? = some (.cells #[.int .i64 y] 3 (0, 0))) (hfew : n ≤ 5000) (hbase : base ≤ w.heap.size)
    (h : ∀ v' w', w'.ownsRow base 3 1 v' (n + 1) ((xs ++ [y]).flatMap intCells) → w.grownBy w' v.ownBlock → wpList Tryd.prog ops Q rest (a.put o.dst v') w') : wpList Tryd.prog ops Q (o :: rest) a w := by
  obtain ⟨i0, hi0, hz0, hz1, hz2⟩ := info_parts info_int3
  refine wpList_append_own w hgd s x 22 ho base 3 i0 _ 1 8 Tryd.underlying22 hi0 hz0 hz1 hz2 rfl (by decide) v n (xs.flatMap intCells) hs hown ⟨g, 0, none⟩ 1 1 [.int .i64 y] hx rfl (World.news_of_block (cs := #[.int .i64 y]) (t := 3) (fr := (0, 0)) hg) (one_int [y]) (by unfold maxLen; omega) (by omega) hbase (fun v' w' h1 h2 _ => h v' w' ?_ h2)
  rw [List.flatMap_append]
  simpa [intCells] using h1
theorem SLFint_own {w : World} {base : Nat} {e : TypeId} {v : Value} {xs : List Int} (h : w.ownsRow base e 1 v xs.length (xs.flatMap intCells)) : rpInt.SLF w base w.heap.size xs v := by
  obtain ⟨h1, h2⟩ := h
  refine SLint_own (w := only w fun k => decide (base ≤ k)) (base := base) (e := e) ⟨h1, ?_⟩ (by rw [only_size]; exact Nat.le_refl _)
  rcases h2 with h2 | ⟨g, cap, cur, hv, hg, hh, rest⟩
  · exact .inl h2
  · exact .inr ⟨g, cap, cur, hv, hg, by rw [only_heap _ _ _ (by simp; omega)]; exact hh, rest⟩
set_option maxRecDepth 100000 in
set_option maxHeartbeats 2000000 in
theorem Input_callsF (l : List Int) (v : Value) (w : World) (h : rpInt.SL w w.heap.size l v) (R : Ending → World → Prop)
    (hR : ∀ w' v', Below w.heap.size w w' → rpInt.SLF w' w.heap.size w'.heap.size (l.take 8) v' → R (.returned v') w') :
    Calls Tryd.prog 20 #[v] w R := by
  obtain ⟨A, c, rfl, hmx, hcap, hs⟩ := h.cases_
  have HR := Lib.hid hR
  have Hs := Lib.hid hs
  clear hR hs h
  go_enter Tryd.func20, Tryd.ntmps20
  go_wp2
  go_loopg [3, 4] 8 (fun gh s3 s4 wr => ∃ k : Nat, k ≤ 8 ∧ k ≤ l.length ∧ gh = 8 - k ∧ s4 = .int .i64 (k : Int) ∧ Hid (wr.ownsRow w.heap.size 3 1 s3 k ((l.take k).flatMap intCells)) ∧ Hid (Below w.heap.size w wr))
  case atStart => exact ⟨0, by omega, Nat.zero_le _, rfl, rfl, Lib.hid (World.ownsRow_nil _ _ _ _), Lib.hid (Below.refl _ _)⟩
  case round =>
    obtain ⟨k, hk8, hkl, rfl, rfl, Ho, Hb⟩ := hrel
    have hz := Hb.out.size
    obtain ⟨A2, c2, rfl⟩ := own_slice Ho.out
    have k0 : (0 : Int) ≤ (k : Int) := by omega
    have Hend : Hid ((k = 8 ∨ k = l.length) → R (.returned (.slice A2 k c2)) wr) := Lib.hid fun e => by
      have e1 : l.take k = l.take 8 := by
        rcases e with e | e
        · rw [e]
        · rw [e, List.take_length, List.take_of_length_le (by omega)]
      refine HR.out wr _ Hb.out ?_
      rw [← e1]
      have := Ho.out
      exact SLFint_own (by rw [List.length_take, Nat.min_eq_left hkl]; exact this)
    by_cases hlt : k < l.length
    · have k1 : (k : Int) < (l.length : Int) := by omega
      by_cases h8 : k < 8
      · have k8 : (k : Int) < 8 := by omega
        obtain ⟨b6, o6, rfl, hb, q0⟩ := Hs.out.int_at hlt
        have q1 := (Hb.out.cell (p := ⟨b6, o6 + k, none⟩) hb).trans q0
        have lb := Nat.lt_of_lt_of_le hb hz
        rw [show l.getD k 0 = l[k] from by rw [List.getD_eq_getElem?_getD, List.getElem?_eq_getElem hlt]; rfl] at q1
        have Hst := Lib.hid (show l.take (k + 1) = l.take k ++ [l[k]] from take_snoc (List.getElem?_eq_getElem hlt))
        generalize l[k] = x at *
        have HoW := Lib.hid (Ho.out.alloc (Obj.cells #[.int .i64 x] 3))
        have HbW := Lib.hid (Hb.out.alloc hz (Obj.cells #[.int .i64 x] 3))
        have HG : Hid ((wr.alloc (Obj.cells #[.int .i64 x] 3)).heap[wr.heap.size]? = some (.cells #[.int .i64 x] 3 (0, 0))) := Lib.hid (heap_alloc_new wr _)
        have hlen : (l.take k).length = k := by rw [List.length_take]; omega
        have Hlen := Lib.hid hlen
        clear q0 hlen Hend
        go_wp2_with (at_builtin; refine app_int rfl _ _ rfl rfl Hlen.out HoW.out wr.heap.size x rfl HG.out (by omega) (by simp; omega) ?_)
        intro v' w2 hown1 hgrow
        obtain ⟨A3, c3, rfl⟩ := own_slice hown1
        have Hown1 := Lib.hid hown1
        have Hb2 := Lib.hid (HbW.out.grown hgrow (by simp; omega) (fun k hk => (Ho.out.lt k hk).1))
        clear hown1 hgrow
        go_wp2
        go_roundg (8 - (k + 1))
        case measure => omega
        case rel => exact ⟨k + 1, by omega, by omega, rfl, by go_num, Lib.hid (by rw [Hst.out]; simpa using Hown1.out), Hb2⟩
      · have k8 : ¬ (k : Int) < 8 := by omega
        have Hf := Lib.hid (Hend.out (.inl (by omega)))
        clear Hend
        go_wp2
        exact Hf.out
    · have k1 : ¬ (k : Int) < (l.length : Int) := by omega
      have Hf := Lib.hid (Hend.out (.inr (by omega)))
      clear Hend
      go_wp2
      exact Hf.out
theorem Input_calls (l : List Int) (v : Value) (w : World) (h : rpInt.SL w w.heap.size l v) (R : Ending → World → Prop)
    (hR : ∀ w' v', Below w.heap.size w w' → rpInt.SL w' w'.heap.size (l.take 8) v' → R (.returned v') w') :
    Calls Tryd.prog 20 #[v] w R := Input_callsF l v w h R fun w' v' hb h => hR w' v' hb h.SL
set_option maxRecDepth 100000 in
set_option maxHeartbeats 2000000 in
theorem Comes_calls (st val s1 s2 : Int) (L : List Int) (v1 v2 : Value) (w : World) (h1 : rpInt.SL w w.heap.size L v1) (h2 : rpInt.SL w w.heap.size L v2) (R : Ending → World → Prop)
    (hR : ∀ w', Below w.heap.size w w' → R (.returned (.bool true)) w') :
    Calls Tryd.prog 22 #[.agg #[.int .i64 st, .int .i64 val, v1, .int .i64 s1], .agg #[.int .i64 st, .int .i64 val, v2, .int .i64 s2]] w R := by
  obtain ⟨A1, c1, rfl, hm1, hcap1, hs1⟩ := h1.cases_
  obtain ⟨A2, c2, rfl, hm2, hcap2, hs2⟩ := h2.cases_
  have HR := Lib.hid hR
  have Hs1 := Lib.hid hs1
  have Hs2 := Lib.hid hs2
  obtain ⟨N, hN⟩ : ∃ N, L.length = N := ⟨_, rfl⟩
  rw [hN] at Hs1 Hs2 hm1 hm2 hcap1 hcap2 ⊢
  have HN := Lib.hid hN
  obtain ⟨W, hW⟩ : ∃ W, W = (w.alloc (Obj.cells #[.int .i64 st, .int .i64 val, .slice A1 N c1, .int .i64 s1] 44)).alloc (Obj.cells #[.int .i64 st, .int .i64 val, .slice A2 N c2, .int .i64 s2] 44) := ⟨_, rfl⟩
  have hbW : Below w.heap.size w W := by subst hW; exact bl0
  have hE1 : W.heap[w.heap.size]? = some (.cells #[.int .i64 st, .int .i64 val, .slice A1 N c1, .int .i64 s1] 44 (0, 0)) := by subst hW; exact blk_alloc (heap_alloc_new _ _) _
  have hE2 : W.heap[w.heap.size + 1]? = some (.cells #[.int .i64 st, .int .i64 val, .slice A2 N c2, .int .i64 s2] 44 (0, 0)) := by
    subst hW
    have := heap_alloc_new (w.alloc (Obj.cells #[.int .i64 st, .int .i64 val, .slice A1 N c1, .int .i64 s1] 44)) (Obj.cells #[.int .i64 st, .int .i64 val, .slice A2 N c2, .int .i64 s2] 44)
    simpa using this
  obtain ⟨a0, a1, a2, a3, _⟩ := four_blk hE1
  obtain ⟨b0, b1, b2, b3, _⟩ := four_blk hE2
  have l1 := blk_lt hE1
  have l2 := blk_lt hE2
  have j1 : (st != st) = false := by simp
  have j2 : (val != val) = false := by simp
  have j3 : ((N : Int) != (N : Int)) = false := by simp
  have HW := Lib.hid hW.symm
  have HbW := Lib.hid hbW
  have HE1 := Lib.hid hE1
  have HE2 := Lib.hid hE2
  clear hR hs1 hs2 h1 h2 hN hW hbW hE1 hE2
  go_enter Tryd.func22, Tryd.ntmps22
  go_upto_region 1 with fail
  rw [HW.out]
  go_wp2
  go_loopg [5] N (fun gh s5 wr => ∃ k : Nat, k ≤ N ∧ gh = N - k ∧ s5 = .int .i64 (k : Int) ∧ Hid (Below W.heap.size W wr))
  case atStart => exact ⟨0, Nat.zero_le _, rfl, rfl, Lib.hid (Below.refl _ _)⟩
  case round =>
    obtain ⟨k, hk, rfl, rfl, Hb⟩ := hrel
    have k0 : (0 : Int) ≤ (k : Int) := by omega
    have hE1 := (Hb.out.block _ l1).trans HE1.out
    have hE2 := (Hb.out.block _ l2).trans HE2.out
    have HB := Lib.hid (HbW.out.trans (Hb.out.mono HbW.out.size))
    clear a0 a1 a2 a3 b0 b1 b2 b3 l1 l2
    obtain ⟨a0, a1, a2, a3, _⟩ := four_blk hE1
    obtain ⟨b0, b1, b2, b3, _⟩ := four_blk hE2
    have l1 := blk_lt hE1
    have l2 := blk_lt hE2
    clear hE1 hE2
    by_cases hlt : k < N
    · have k1 : (k : Int) < (N : Int) := by omega
      obtain ⟨x, hx⟩ : ∃ x, L.getD k 0 = x := ⟨_, rfl⟩
      obtain ⟨p1, o1, rfl, hp1, q1⟩ := Hs1.out.int_at (k := k) (by rw [HN.out]; exact hlt)
      obtain ⟨p2, o2, rfl, hp2, q2⟩ := Hs2.out.int_at (k := k) (by rw [HN.out]; exact hlt)
      rw [hx] at q1 q2
      have r1 := (HB.out.cell (p := ⟨p1, o1 + k, none⟩) hp1).trans q1
      have g1 := Nat.lt_of_lt_of_le hp1 HB.out.size
      have g2 := Nat.lt_of_lt_of_le hp2 HB.out.size
      have r2 := (HB.out.cell (p := ⟨p2, o2 + k, none⟩) hp2).trans q2
      have jx : (x != x) = false := by simp
      clear hx q1 q2
      go_wp2_with fail
      go_quiet (fail)
      go_wp2
      go_roundg (N - (k + 1))
      case measure => omega
      case rel => exact ⟨k + 1, by omega, rfl, by go_num, Lib.hid (below_drewN Hb.out _)⟩
    · obtain rfl : k = N := by omega
      have Hf := Lib.hid (HR.out _ HB.out)
      go_wp2
      exact Hf.out
end Go.Proofs.YtemakpjickbmnaaDoor
