/- FrameBack's walk. -/
import Derived.Test.YtemakpjickbmnaaDoorBase
import Derived.Test.YtemakpjickbmnaaDoorRows
import Derived.IntWalk
import Derived.Outline
import Derived.Deep.LoopGhost
import Derived.Laws.AppendOwnNone
import Derived.Test.YtemakpjickbmnaaDoorPsA
import Derived.Test.YtemakpjickbmnaaDoorFk3
namespace Go.Proofs.YtemakpjickbmnaaDoor
open Go.RowKit
set_option linter.unusedSimpArgs false
set_option linter.unusedVariables false

/-- append of a row of the call's own onto nil. -/
theorem app_nil_own {ops : Array Oper} {rest : List Oper} {o : Oper} {a : Act} {w : World} {Q : Exit → Act → World → Prop} (hgd : o.guard = none) (s x : Operand) (ho : o.op = .call { callee := .builtin .append, args := #[s, x], argTypes := #[23, 23] })
    (hs : a.eval s = .slice none 0 0) {b0 K : Nat} {v : Value} {M : List Mac} (hx : a.eval x = v) (hn : M.length = K) (hown : w.ownsRow b0 36 5 v K (M.flatMap Mac.cells)) (hfew : K ≤ 5000)
    (h : ∀ v' w', w'.ownsRow w.heap.size 36 5 v' K (M.flatMap Mac.cells) → Below w.heap.size w w' → wpList Tryd.prog ops Q rest (a.put o.dst v') w') : wpList Tryd.prog ops Q (o :: rest) a w := by
  obtain ⟨i0, hi0, hz0, hz1, hz2⟩ := info_parts info_Mac
  have hcell := hown
  rcases hown.2 with ⟨rfl, rfl⟩ | ⟨g, cap, cur, rfl, hb, hh, _, _, _, _⟩
  · have hM : M = [] := List.eq_nil_of_length_eq_zero hn
    subst hM
    exact wpList_append_own_none hgd s x 23 ho w.heap.size 36 i0 5 Tryd.underlying23 hi0 (.slice none 0 0) 0 [] hs (World.ownsRow_nil _ _ _ _) hx (h _ _ (World.ownsRow_nil _ _ _ _) (Below.refl _ _))
  · refine app_nil_mac hgd s x ho hs ⟨g, 0, none⟩ K cap M hx hn hfew (fun j u hj => ?_) (fun v' w' h1 h2 => h v' w' h1 (Below.grown (Below.refl _ _) h2 (Nat.le_refl _) (fun k hk => by cases hk)))
    have hlt : j < M.length * 5 := by
      have := (List.getElem?_eq_some_iff.1 hj).1
      rwa [flat_length Mac.cells 5 (fun _ => rfl)] at this
    rw [Addr.add_lit, Nat.zero_add]
    exact (hcell.cellAt j (by rw [← hn]; exact hlt)).trans hj
/-- append of a row of the call's own onto a row of the call's own. -/
theorem app_row_mac {ops : Array Oper} {rest : List Oper} {o : Oper} {a : Act} {w : World} {Q : Exit → Act → World → Prop} (hgd : o.guard = none) (s x : Operand) (ho : o.op = .call { callee := .builtin .append, args := #[s, x], argTypes := #[23, 23] })
    {base b0 n K g cap : Nat} {v : Value} {L M : List Mac} (hs : a.eval s = v) (hown : w.ownsRow base 36 5 v n (L.flatMap Mac.cells)) (hx : a.eval x = .slice (some ⟨g, 0, none⟩) K cap) (hn : M.length = K) (hown2 : w.ownsRow b0 36 5 (.slice (some ⟨g, 0, none⟩) K cap) K (M.flatMap Mac.cells)) (hfew : n + K ≤ 5000) (hbase : base ≤ w.heap.size)
    (h : ∀ v' w', w'.ownsRow base 36 5 v' (n + K) ((L ++ M).flatMap Mac.cells) → w.grownBy w' v.ownBlock → wpList Tryd.prog ops Q rest (a.put o.dst v') w') : wpList Tryd.prog ops Q (o :: rest) a w := by
  obtain ⟨i0, hi0, hz0, hz1, hz2⟩ := info_parts info_Mac
  have hfl : (M.flatMap Mac.cells).length = K * 5 := by rw [flat_length Mac.cells 5 (fun _ => rfl), hn]
  refine wpList_append_own w hgd s x 23 ho base 36 i0 _ 5 40 Tryd.underlying23 hi0 hz0 hz1 hz2 rfl (by decide) v n (L.flatMap Mac.cells) hs hown ⟨g, 0, none⟩ K cap (M.flatMap Mac.cells) hx hfl (fun j u hj => ?_) (one_Mac M) (by unfold maxLen; omega) (by omega) hbase (fun v' w' h1 h2 _ => h v' w' ?_ h2)
  · have hlt : j < K * 5 := by
      have := (List.getElem?_eq_some_iff.1 hj).1
      rwa [hfl] at this
    rw [Addr.add_lit, Nat.zero_add]
    exact (hown2.cellAt j hlt).trans hj
  · rw [List.flatMap_append]
    exact h1
theorem SL_two {α : Type} {r : Rp α} {w : World} {B b : Nat} {x y : α} {cs ds : List Value} {T : TypeId} {fr : Nat × Nat} (hb : w.heap[b]? = some (.cells (cs ++ ds).toArray T fr)) (hB : b < B) (hc : cs.length = r.size) (hr : r.rep w B x cs) (hs : r.rep w B y ds) : r.SL w B [x, y] (.slice (some ⟨b, 0, none⟩) 2 2) :=
  ⟨_, 2, rfl, by unfold maxLen; simp, Nat.le_refl _, fun _ => ⟨b, 0, rfl, hB, fun k z hk => by
    match k, hk with
    | 0, hk =>
      have e : z = x := by simpa using hk.symm
      subst e
      refine ⟨cs, hr, fun j u hj => ?_⟩
      have hl := (List.getElem?_eq_some_iff.1 hj).1
      rw [blk_cell hb]
      simp only [Nat.zero_mul, Nat.zero_add, List.getElem?_toArray]
      rw [List.getElem?_append_left hl]
      exact hj
    | 1, hk =>
      have e : z = y := by simpa using hk.symm
      subst e
      refine ⟨ds, hs, fun j u hj => ?_⟩
      rw [blk_cell hb]
      simp only [Nat.one_mul, Nat.zero_add, List.getElem?_toArray]
      rw [List.getElem?_append_right (by omega), show r.size + j - cs.length = j from by omega]
      exact hj
    | k + 2, hk => simp at hk⟩⟩
def setsL (k : Nat) : List Mac := (List.range k).map (fun q : Nat => (⟨1, (q : Int), 0, 0, 1000 + (q : Int)⟩ : Mac))
theorem setsL_step (k : Nat) : setsL (k + 1) = setsL k ++ [⟨1, (k : Int), 0, 0, 1000 + (k : Int)⟩] := by
  unfold setsL
  rw [List.range_succ, List.map_append]
  rfl
set_option maxRecDepth 100000 in
set_option maxHeartbeats 4000000 in
theorem FrameBack_calls (sp sv r n : Int) (hsp : I64 sp) (hsv : I64 sv) (hr : I64 r) (hn : I64 n) (w : World) (hS : Shapes w) (R : Ending → World → Prop) (hR : ∀ w', Below w.heap.size w w' → R (.returned (.bool true)) w') :
    Calls Tryd.prog 8 #[.int .i64 sp, .int .i64 sv, .int .i64 r, .int .i64 n] w R := by
  have h0 := hS.1
  have HS := Lib.hid hS
  have HR := Lib.hid hR
  obtain ⟨s, hs⟩ : ∃ s : Nat, sp % 101 = (s : Int) := ⟨(sp % 101).toNat, by have := Int.emod_nonneg sp (show (101 : Int) ≠ 0 by decide); omega⟩
  obtain ⟨y, hy⟩ : ∃ y : Nat, sv % 256 = (y : Int) := ⟨(sv % 256).toNat, by have := Int.emod_nonneg sv (show (256 : Int) ≠ 0 by decide); omega⟩
  obtain ⟨q, hq⟩ : ∃ q : Nat, r % 8 = (q : Int) := ⟨(r % 8).toNat, by have := Int.emod_nonneg r (show (8 : Int) ≠ 0 by decide); omega⟩
  have hs100 : s ≤ 100 := by omega
  have hy256 : y < 256 := by omega
  have hq8 : q < 8 := by omega
  have hN : N64 n := ⟨hn.1, by have := hn.2; omega⟩
  have hfl := bits_fault y hy256
  have hea := bits_each y hy256
  have hnd := bits_nodup y hy256
  have hle := bitsTo_len y 8
  have Hsp := Lib.hid hsp
  have Hsv := Lib.hid hsv
  have Hr := Lib.hid hr
  have Hs := Lib.hid hs
  have Hy := Lib.hid hy
  have Hq := Lib.hid hq
  have HN := Lib.hid hN
  clear hR hS hsp hsv hr hn hs hy hq hN
  go_enter Tryd.func8, Tryd.ntmps8
  go_wp2_with fail
  refine frameOf_calls sp sv Hsp.out Hsv.out s y Hs.out Hy.out _ _ (fun w1 v1 hb1 hs1 => ?_)
  generalize bitsTo y 8 = xs at *
  have Hea := Lib.hid hea
  have Hnd := Lib.hid hnd
  have hfr : frameFault (s : Int) xs = (0, 0) := by unfold frameFault; rw [if_neg (by omega)]; exact hfl
  have Hfr := Lib.hid hfr
  obtain ⟨A1, c1, rfl, hm1, hc1, hx1⟩ := hs1.cases_
  obtain ⟨K, hK⟩ : ∃ K, xs.length = K := ⟨_, rfl⟩
  rw [hK] at hx1 hm1 hc1 hle ⊢
  have HK := Lib.hid hK
  obtain ⟨W1, hW1⟩ : ∃ W1, W1 = w1.alloc (Obj.cells #[.int .i64 (s : Int), .slice A1 K c1] 80) := ⟨_, rfl⟩
  have hbW1 : Below w1.heap.size w1 W1 := by subst hW1; exact bl0
  have hF1 : W1.heap[w1.heap.size]? = some (.cells #[.int .i64 (s : Int), .slice A1 K c1] 80 (0, 0)) := by subst hW1; exact heap_alloc_new _ _
  have HW1 := Lib.hid hW1.symm
  have HF1 := Lib.hid hF1
  have Hx1 := Lib.hid (hx1.up hbW1 hbW1.size)
  have HB1 := Lib.hid (hb1.trans (hbW1.mono hb1.size))
  obtain ⟨f0, f1⟩ := cells_blk hF1
  have lF1 := blk_lt hF1
  clear hb1 hs1 hx1 hfl hea hnd hfr hK hW1 hbW1 hF1 hy256
  go_upto_region 2 with fail
  rw [HW1.out]
  go_wp2_with fail
  refine Enter_good (s : Int) _ xs _ Hx1.out Hfr.out (by omega) (by omega) (by rw [HK.out]; omega) _ (fun w2 v2 hb2 ho2 => ?_)
  rw [HK.out] at ho2
  obtain ⟨A2, c2, rfl⟩ := own_slice ho2
  obtain ⟨W2, hW2⟩ : ∃ W2, W2 = w2.alloc (Obj.cells #[.int .i64 0, .int .i64 0] 25) := ⟨_, rfl⟩
  have hbW2 : Below w2.heap.size w2 W2 := by subst hW2; exact bl0
  have hE2 : W2.heap[w2.heap.size]? = some (.cells #[.int .i64 0, .int .i64 0] 25 (0, 0)) := by subst hW2; exact heap_alloc_new _ _
  have hb12 := hb2.trans (hbW2.mono hb2.size)
  have HW2 := Lib.hid hW2.symm
  have HE2 := Lib.hid hE2
  have Ho2 := Lib.hid (ownsRow_below ho2 hbW2 (Nat.le_refl _))
  have Hx2 := Lib.hid (Hx1.out.up hb12 hb12.size)
  have HF2 := Lib.hid ((hb12.block _ lF1).trans HF1.out)
  have HB2 := Lib.hid (HB1.out.trans (hb12.mono HB1.out.size))
  clear hb2 ho2 hW2 hbW2 hE2 hb12 HF1 Hx1 f0 f1 lF1
  obtain ⟨f0, f1⟩ := cells_blk HF2.out
  have lF2 := blk_lt HF2.out
  go_upto_region 3 with fail
  rw [HW2.out]
  go_wp2_with fail
  refine Leave_good (s : Int) _ xs _ Hx2.out Hfr.out (by omega) (by omega) (by rw [HK.out]; omega) _ (fun w3 v3 hb3 ho3 => ?_)
  rw [HK.out] at ho3
  obtain ⟨g3, c3, rfl, hg3a, hg3b, hc3a, hc3b⟩ := own_some ho3 (Nat.succ_pos _)
  obtain ⟨W3, hW3⟩ : ∃ W3, W3 = w3.alloc (Obj.cells #[.int .i64 0, .int .i64 0] 25) := ⟨_, rfl⟩
  have hbW3 : Below w3.heap.size w3 W3 := by subst hW3; exact bl0
  have hE3 : W3.heap[w3.heap.size]? = some (.cells #[.int .i64 0, .int .i64 0] 25 (0, 0)) := by subst hW3; exact heap_alloc_new _ _
  have hb23 := hb3.trans (hbW3.mono hb3.size)
  have HW3 := Lib.hid hW3.symm
  have HE3 := Lib.hid hE3
  have Ho3 := Lib.hid (ownsRow_below ho3 hbW3 (Nat.le_refl _))
  have Ho23 := Lib.hid (ownsRow_below Ho2.out hb23 (Nat.le_refl _))
  have Hx3 := Lib.hid (Hx2.out.up hb23 hb23.size)
  have HF3 := Lib.hid ((hb23.block _ lF2).trans HF2.out)
  have HE23 := Lib.hid ((hb23.block _ (blk_lt HE2.out)).trans HE2.out)
  have HB3 := Lib.hid (HB2.out.trans (hb23.mono HB2.out.size))
  clear hb3 ho3 hW3 hbW3 hE3 hb23 HF2 HE2 Hx2 Ho2 f0 f1 lF2
  obtain ⟨f0, f1⟩ := cells_blk HF3.out
  have lF3 := blk_lt HF3.out
  obtain ⟨e0, e1⟩ := cells_blk HE3.out
  have lE3 := blk_lt HE3.out
  obtain ⟨d0, d1⟩ := cells_blk HE23.out
  have lE2 := blk_lt HE23.out
  have j1 : ((K : Int) + 1 != (K : Int) + 1) = false := by simp
  have j2 : ((K : Int) != (K : Int)) = false := by simp
  go_upto_region 4 with fail
  rw [HW3.out]
  go_wp2_with fail
  refine Picked_calls r 8 (by decide) (by decide) Hr.out _ _ ?_
  rw [Hq.out]
  go_upto_region 7 with fail
  obtain ⟨reg, hreg⟩ : ∃ reg : Nat, 6 + (q : Int) = (reg : Int) := ⟨6 + q, by omega⟩
  rw [hreg]
  have hr6 : 6 ≤ reg := by omega
  have hr13 : reg ≤ 13 := by omega
  clear hreg e0 e1 d0 d1 lE3 lE2 j1 j2
  go_wp2_with (at_builtin; refine app_nil_own rfl _ _ rfl rfl rfl (by rw [entered_length]; exact HK.out) Ho23.out (by omega) ?_)
  intro v4 w4 ho4 hb4
  obtain ⟨A4, c4, rfl⟩ := own_slice ho4
  have Ho4 := Lib.hid ho4
  have Hb4 := Lib.hid hb4
  clear ho4 hb4 Ho23
  go_wp2
  go_loopg [15, 16] 14 (fun gh s15 s16 wr => ∃ m : Nat, m ≤ 14 ∧ gh = 14 - m ∧ s16 = .int .i64 (m : Int) ∧ Hid (wr.ownsRow W3.heap.size 36 5 s15 (K + m) ((entered (s : Int) xs ++ setsL m).flatMap Mac.cells)) ∧ Hid (Below W3.heap.size W3 wr))
  case atStart => exact ⟨0, by omega, rfl, rfl, Lib.hid (by simpa [setsL] using Ho4.out), Hb4⟩
  case round =>
    obtain ⟨m, hm, rfl, rfl, Ho, Hb⟩ := hrel
    have hz := Hb.out.size
    obtain ⟨A5, c5, rfl⟩ := own_slice Ho.out
    have hlen : (entered (s : Int) xs ++ setsL m).length = K + m := by rw [List.length_append, entered_length, HK.out]; simp [setsL]
    have Hlen := Lib.hid hlen
    clear hlen
    by_cases hlt : m < 14
    · have m14 : (m : Int) < 14 := by omega
      have HoW := Lib.hid (Ho.out.alloc (Obj.cells #[.int .i64 1, .int .i64 (m : Int), .int .i64 0, .int .i64 0, .int .i64 (1000 + (m : Int))] 36))
      have HbW := Lib.hid (Hb.out.alloc hz (Obj.cells #[.int .i64 1, .int .i64 (m : Int), .int .i64 0, .int .i64 0, .int .i64 (1000 + (m : Int))] 36))
      have HG : Hid ((wr.alloc (Obj.cells #[.int .i64 1, .int .i64 (m : Int), .int .i64 0, .int .i64 0, .int .i64 (1000 + (m : Int))] 36)).heap[wr.heap.size]? = some (.cells #[.int .i64 1, .int .i64 (m : Int), .int .i64 0, .int .i64 0, .int .i64 (1000 + (m : Int))] 36 (0, 0))) := Lib.hid (heap_alloc_new wr _)
      go_wp2_with (at_builtin; refine app_one_mac rfl _ _ rfl rfl Hlen.out HoW.out wr.heap.size ⟨1, (m : Int), 0, 0, 1000 + (m : Int)⟩ rfl HG.out (by omega) (by simp; omega) ?_)
      intro v' w5 hown1 hgrow
      obtain ⟨A6, c6, rfl⟩ := own_slice hown1
      have Hown1 := Lib.hid hown1
      have Hb2 := Lib.hid (HbW.out.grown hgrow (by simp; omega) (fun k hk => (Ho.out.lt k hk).1))
      clear hown1 hgrow
      go_wp2
      go_roundg (14 - (m + 1))
      case measure => omega
      case rel => exact ⟨m + 1, by omega, rfl, by go_num, Lib.hid (by rw [setsL_step, ← List.append_assoc]; simpa [Nat.add_assoc] using Hown1.out), Hb2⟩
    · obtain rfl : m = 14 := by omega
      have Ho3r := Lib.hid (ownsRow_below Ho3.out Hb.out (Nat.le_refl _))
      have hL3 : (left (s : Int) xs ++ [macReturn]).length = K + 1 := by rw [List.length_append, left_length, HK.out]; rfl
      have HL3 := Lib.hid hL3
      clear hL3
      go_wp2_with (at_builtin; refine app_row_mac rfl _ _ rfl rfl Ho.out rfl HL3.out Ho3r.out (by omega) hz ?_)
      intro v5 w5 hown5 hgrow5
      obtain ⟨A6, c6, rfl⟩ := own_slice hown5
      have hcal : w5.ownsRow W3.heap.size 36 5 (.slice A6 (K + 14 + (K + 1)) c6) (K + 14 + (K + 1)) ((callee (s : Int) xs).flatMap Mac.cells) := by
        have := hown5
        unfold callee
        simpa [setsL] using this
      have hcl : (callee (s : Int) xs).length = K + 14 + (K + 1) := by rw [callee_len, HK.out]
      have Hb5 := Lib.hid (Hb.out.grown hgrow5 (by omega) (fun k hk => (Ho.out.lt k hk).1))
      have hsl5 : rpMac.SL w5 w5.heap.size (callee (s : Int) xs) (.slice A6 (K + 14 + (K + 1)) c6) := SLMac_own (by rw [hcl]; exact hcal) (Nat.le_refl _)
      have Hsl5 := Lib.hid hsl5
      generalize hNc : K + 14 + (K + 1) = NC at *
      clear hown5 hgrow5 hcal hcl hsl5 hNc
      have HB5 := Lib.hid (HB3.out.trans (Hb5.out.mono HB3.out.size))
      obtain ⟨W6, hW6⟩ : ∃ W6, W6 = w5.alloc (Obj.cells #[.int .i64 1, .int .i64 (reg : Int), .int .i64 0, .int .i64 0, .int .i64 n, .int .i64 44, .int .i64 0, .int .i64 0, .int .i64 0, .int .i64 1, .int .i64 2, .int .i64 0, .int .i64 (reg : Int), .int .i64 0, .int .i64 0, .int .i64 45, .int .i64 0, .int .i64 0, .int .i64 0, .int .i64 0] 36) := ⟨_, rfl⟩
      have hbW6 : Below w5.heap.size w5 W6 := by subst hW6; exact bl0
      have hM6 : W6.heap[w5.heap.size]? = some (.cells #[.int .i64 1, .int .i64 (reg : Int), .int .i64 0, .int .i64 0, .int .i64 n, .int .i64 44, .int .i64 0, .int .i64 0, .int .i64 0, .int .i64 1, .int .i64 2, .int .i64 0, .int .i64 (reg : Int), .int .i64 0, .int .i64 0, .int .i64 45, .int .i64 0, .int .i64 0, .int .i64 0, .int .i64 0] 36 (0, 0)) := by subst hW6; exact heap_alloc_new _ _
      have hSL6 : rpMac.SL W6 W6.heap.size (mainOf (reg : Int) n) (.slice (some ⟨w5.heap.size, 0, none⟩) 4 4) := by
        refine SLMac_own (base := w5.heap.size) (e := 36) ⟨rfl, .inr ⟨w5.heap.size, 4, _, rfl, Nat.le_refl _, hM6, Nat.le_refl _, by unfold maxLen; decide, rfl, rfl⟩⟩ (Nat.le_refl _)
      have HW6 := Lib.hid hW6.symm
      have Hb6 := Lib.hid (Hb5.out.trans (hbW6.mono Hb5.out.size))
      have HB6 := Lib.hid (HB3.out.trans (Hb6.out.mono HB3.out.size))
      have HSL6 := Lib.hid hSL6
      have Hsl6 := Lib.hid (Hsl5.out.up hbW6 hbW6.size)
      clear hW6 hbW6 hM6 hSL6
      go_upto_region 14 with fail
      rw [HW6.out]
      go_wp2_with fail
      refine CodeBytes_calls (mainOf (reg : Int) n) _ _ HSL6.out (macs_good (main_ok (by omega) (by omega)) (main_n HN.out)) (by simp [mainOf]) _ (fun w7 v7 hb7 hbuf7 => ?_)
      have hb67 := Hb6.out.trans (hb7.mono Hb6.out.size)
      have Hb7 := Lib.hid hb67
      have HB7 := Lib.hid (HB3.out.trans (hb67.mono HB3.out.size))
      have Hsl7 := Lib.hid (Hsl6.out.up hb7 hb7.size)
      have hc7 := hbuf7.SL (Nat.le_refl _)
      obtain ⟨A7, n7, rfl⟩ := hbuf7.slice
      have Hc7 := Lib.hid hc7
      clear hb7 hbuf7 hc7 hb67
      obtain ⟨N7, hN7⟩ : ∃ N, (codeB (mainOf (reg : Int) n)).length = N := ⟨_, rfl⟩
      rw [hN7] at Hc7 ⊢
      clear hN7
      go_wp2_with fail
      refine CodeBytes_calls (callee (s : Int) xs) _ _ Hsl7.out (macs_good (callee_ok (by omega) (by omega) (by rw [HK.out]; omega) Hea.out) (callee_n (by omega) (by omega) (by rw [HK.out]; omega))) (by rw [callee_len, HK.out]; omega) _ (fun w8 v8 hb8 hbuf8 => ?_)
      have Hb8 := Lib.hid (Hb7.out.trans (hb8.mono Hb7.out.size))
      have hc8 := hbuf8.SL (Nat.le_refl _)
      obtain ⟨A8, n8, rfl⟩ := hbuf8.slice
      have Hc8 := Lib.hid hc8
      have Hc78 := Lib.hid (Hc7.out.up hb8 hb8.size)
      clear hb8 hbuf8 hc8 Hc7
      obtain ⟨N8, hN8⟩ : ∃ N, (codeB (callee (s : Int) xs)).length = N := ⟨_, rfl⟩
      rw [hN8] at Hc8 ⊢
      clear hN8
      obtain ⟨W9, hW9⟩ : ∃ W9, W9 = w8.alloc (Obj.cells #[.string ⟨#[109, 97, 105, 110]⟩, .slice A7 N7 n7, .string ⟨#[102]⟩, .slice A8 N8 n8] 75) := ⟨_, rfl⟩
      have hbW9 : Below w8.heap.size w8 W9 := by subst hW9; exact bl0
      have hR9 : W9.heap[w8.heap.size]? = some (.cells #[.string ⟨#[109, 97, 105, 110]⟩, .slice A7 N7 n7, .string ⟨#[102]⟩, .slice A8 N8 n8] 75 (0, 0)) := by subst hW9; exact heap_alloc_new _ _
      have hr9 : rpRoutine.SL W9 W9.heap.size [⟨mainB, codeB (mainOf (reg : Int) n)⟩, ⟨fB, codeB (callee (s : Int) xs)⟩] (.slice (some ⟨w8.heap.size, 0, none⟩) 2 2) :=
        SL_two (cs := [.string ⟨#[109, 97, 105, 110]⟩, .slice A7 N7 n7]) (ds := [.string ⟨#[102]⟩, .slice A8 N8 n8]) hR9 (blk_lt hR9) rfl (rpRoutine_mk (Hc78.out.up hbW9 hbW9.size)) (rpRoutine_mk (Hc8.out.up hbW9 hbW9.size))
      have HW9 := Lib.hid hW9.symm
      have Hb9 := Lib.hid (Hb8.out.trans (hbW9.mono Hb8.out.size))
      have HB9 := Lib.hid (HB3.out.trans (Hb9.out.mono HB3.out.size))
      have Hr9 := Lib.hid hr9
      clear hW9 hbW9 hR9 hr9
      go_wp2_with fail
      rw [HW9.out]
      refine Run_calls (backI (reg : Int) n (s : Int) xs) _ _ _ [] 100 _ (Rp.SL.nil _ _ _) Hr9.out (back_img (by omega) (by omega) HN.out (by omega) (by omega) (by rw [HK.out]; omega) Hea.out) (HS.out.up HB9.out h0) (Rp.SL.nil _ _ _) (by decide) (by decide) _ (fun wa vo hba hvo => ?_)
      rw [back_run hs100 (by rw [HK.out]; omega) Hea.out Hnd.out hr6 hr13 HN.out] at hvo ⊢
      simp only at hvo ⊢
      obtain ⟨Z0, hZ0⟩ : ∃ Z, Z = (if (reg : Int) ∈ xs then n else 1000 + (reg : Int)) := ⟨_, rfl⟩
      rw [← hZ0]
      have HZ0 := Lib.hid hZ0
      obtain ⟨ST, hST⟩ : ∃ ST : Int, ((2 * xs.length + 19 : Nat) : Int) = ST := ⟨_, rfl⟩
      rw [hST]
      obtain ⟨Ao, no, rfl, _, _, _⟩ := hvo.cases_
      have hb3a := Hb9.out.trans (hba.mono Hb9.out.size)
      obtain ⟨Wb, hWb⟩ : ∃ Wb, Wb = (wa.alloc (Obj.cells #[.int .i64 0, .int .i64 Z0, .slice Ao 0 no, .int .i64 ST] 44)).alloc (Obj.cells #[.int .i64 0, .int .i64 0] 25) := ⟨_, rfl⟩
      have hbWb : Below wa.heap.size wa Wb := by subst hWb; exact bl0
      have hOb : Wb.heap[wa.heap.size]? = some (.cells #[.int .i64 0, .int .i64 Z0, .slice Ao 0 no, .int .i64 ST] 44 (0, 0)) := by subst hWb; exact blk_alloc (heap_alloc_new _ _) _
      have hFb : Wb.heap[wa.heap.size + 1]? = some (.cells #[.int .i64 0, .int .i64 0] 25 (0, 0)) := by
        subst hWb
        have := heap_alloc_new (wa.alloc (Obj.cells #[.int .i64 0, .int .i64 Z0, .slice Ao 0 no, .int .i64 ST] 44)) (Obj.cells #[.int .i64 0, .int .i64 0] 25)
        simpa using this
      have hb3b := hb3a.trans (hbWb.mono hb3a.size)
      have HOb := Lib.hid hOb
      have HFb := Lib.hid hFb
      have HFrb := Lib.hid ((hb3b.block _ lF3).trans HF3.out)
      have Hxb := Lib.hid (Hx3.out.up hb3b hb3b.size)
      have HBb := Lib.hid (HB3.out.trans (hb3b.mono HB3.out.size))
      have HWb := Lib.hid hWb.symm
      clear hvo hba hZ0 hST hb3a hWb hbWb hOb hFb hb3b
      have hw0 : Wb.heap.size ≤ Wb.heap.size := Nat.le_refl _
      go_upto_region 15 with fail
      rw [HWb.out]
      go_wp2
      go_loopg [20, 21] K (fun gh s20 s21 wr => ∃ (i : Nat) (Z : Int), i ≤ K ∧ gh = K - i ∧ s20 = .int .i64 Z ∧ s21 = .int .i64 (i : Int) ∧ Hid (Z = if (reg : Int) ∈ xs.take i then n else 1000 + (reg : Int)) ∧ wr = Wb)
      case atStart => exact ⟨0, _, Nat.zero_le _, rfl, rfl, rfl, Lib.hid (by simp), rfl⟩
      case round =>
        obtain ⟨i, Z, hi, rfl, rfl, rfl, HZ, rfl⟩ := hrel
        obtain ⟨k0, k1⟩ := cells_blk HFrb.out
        have lk := blk_lt HFrb.out
        by_cases hlt : i < K
        · have hil : i < xs.length := by rw [HK.out]; exact hlt
          obtain ⟨bx, ox, rfl, hbx, q0⟩ := Hxb.out.int_at (k := i) hil
          rw [show xs.getD i 0 = xs[i] from by rw [List.getD_eq_getElem?_getD, List.getElem?_eq_getElem hil]; rfl] at q0
          have Hst := Lib.hid (show xs.take (i + 1) = xs.take i ++ [xs[i]] from take_snoc (List.getElem?_eq_getElem hil))
          have i0 : (0 : Int) ≤ (i : Int) := by omega
          have i1 : (i : Int) < (K : Int) := by omega
          generalize xs[i] = x at *
          by_cases hx : x = (reg : Int)
          · have jx : (x == (reg : Int)) = true := by simpa using hx
            have H2 := Lib.hid (show n = if (reg : Int) ∈ xs.take (i + 1) then n else 1000 + (reg : Int) by rw [Hst.out, if_pos (by rw [hx]; simp)])
            clear hx
            go_wp2
            go_roundg (K - (i + 1))
            case measure => omega
            case rel => exact ⟨i + 1, n, by omega, rfl, rfl, by go_num, H2, rfl⟩
          · have jx : (x == (reg : Int)) = false := by simpa using hx
            have H2 := Lib.hid (show Z = if (reg : Int) ∈ xs.take (i + 1) then n else 1000 + (reg : Int) by
              have e : ((reg : Int) ∈ xs.take (i + 1)) ↔ ((reg : Int) ∈ xs.take i) := by
                rw [Hst.out, List.mem_append, List.mem_singleton]
                exact ⟨fun h => h.elim id fun h => absurd h.symm hx, .inl⟩
              rw [HZ.out]
              simp only [e])
            clear hx
            go_wp2
            go_roundg (K - (i + 1))
            case measure => omega
            case rel => exact ⟨i + 1, Z, by omega, rfl, rfl, by go_num, H2, rfl⟩
        · obtain rfl : i = K := by omega
          have hZ : Z = Z0 := by rw [HZ.out, HZ0.out, ← HK.out, List.take_length]
          subst hZ
          obtain ⟨o0, o1, o2, o3, _⟩ := four_blk HOb.out
          obtain ⟨e0, e1⟩ := cells_blk HFb.out
          have l1 := blk_lt HOb.out
          have l2 := blk_lt HFb.out
          have jz : (Z == Z) = true := by simp
          go_wp2
          exact HR.out _ HBb.out
end Go.Proofs.YtemakpjickbmnaaDoor
