/- PeepJumps' walk. -/
import Derived.Test.YtkcmijnaheapdaaDoorBase
import Derived.Test.YtkcmijnaheapdaaDoorRows
import Derived.IntWalk
import Derived.Outline
import Derived.Deep.LoopGhost
import Derived.Deep.RegionLaw
import Derived.Test.YtkcmijnaheapdaaDoorPk17
import Derived.Test.YtkcmijnaheapdaaDoorPjP
import Derived.Test.YtkcmijnaheapdaaDoorKitW
namespace Go.Proofs.YtkcmijnaheapdaaDoor
open Go.RowKit
set_option linter.unusedSimpArgs false
set_option linter.unusedVariables false

theorem range_map_snoc {f : Nat → Mac} (k : Nat) : (List.range (k + 1)).map f = (List.range k).map f ++ [f k] := by rw [List.range_succ, List.map_append]; rfl
set_option maxRecDepth 100000 in
set_option maxHeartbeats 4000000 in
theorem PeepJumps_calls (n0 n1 : Int) (hn0 : I64 n0) (hn1 : I64 n1) (w : World) (hS : Shapes w) (R : Ending → World → Prop) (hR : ∀ w', Below w.heap.size w w' → R (.returned (.bool true)) w') :
    Calls Tryd.prog 9 #[.int .i64 n0, .int .i64 n1] w R := by
  have h0 := hS.1
  have HS := Lib.hid hS
  have HR := Lib.hid hR
  obtain ⟨i0, hi0, hz0, hz1, hz2⟩ := info_parts info_Mac
  have H0 := Lib.hid hn0
  have H1 := Lib.hid hn1
  clear hR hS hn0 hn1
  go_enter Tryd.func9, Tryd.ntmps9
  go_wp2_with fail
  refine Picked_calls n0 30 (by omega) (by omega) H0.out _ _ ?_
  obtain ⟨N, hN⟩ : ∃ N : Nat, n0 % 30 = (N : Int) := ⟨(n0 % 30).toNat, by omega⟩
  have hN30 : N < 30 := by omega
  rw [hN]
  clear hN
  go_wp2_with fail
  go_loopg [6, 7] N (fun gh s6 s7 wr => ∃ k : Nat, k ≤ N ∧ gh = N - k ∧ s7 = .int .i64 (k : Int) ∧ Hid (wr.ownsRow w.heap.size 44 5 s6 k (((List.range k).map (jumpM N)).flatMap Mac.cells)) ∧ Hid (Below w.heap.size w wr))
  case atStart => exact ⟨0, Nat.zero_le _, rfl, rfl, Lib.hid (World.ownsRow_nil _ _ _ _), Lib.hid (Below.refl _ _)⟩
  case round =>
    obtain ⟨k, hk, rfl, rfl, HO, HB⟩ := hrel
    obtain ⟨A6, c6, rfl⟩ := own_slice HO.out
    have hz := HB.out.size
    have k0 : (0 : Int) ≤ (k : Int) := by omega
    by_cases hlt : k < N
    · have k1 : (k : Int) < (N : Int) := by omega
      have hst := range_map_snoc (f := jumpM N) k
      obtain ⟨y, hy⟩ : ∃ y : Nat, jumpM N k = goM y ∧ y = if N - 1 - k ≤ k then N else N - 1 - k := ⟨_, rfl, rfl⟩
      rw [hy.1] at hst
      have Hst := Lib.hid hst
      clear hst
      generalize (List.range k).map (jumpM N) = L at *
      by_cases hle : N - 1 - k ≤ k
      · have e : y = N := by rw [hy.2, if_pos hle]
        rw [e] at Hst
        have k2 : (N : Int) - 1 - (k : Int) ≤ (k : Int) := by omega
        clear hy e hle
        go_wp2_with (at_builtin; refine wpList_append_own _ rfl _ _ 45 rfl w.heap.size 44 i0 _ 5 40 Tryd.underlying45 hi0 hz0 hz1 hz2 rfl (by decide) (.slice A6 k c6) k (L.flatMap Mac.cells) rfl (HO.out.alloc _) ⟨wr.heap.size, 0, none⟩ 1 1 [.int .i64 37, .int .i64 0, .int .i64 0, .int .i64 0, .int .i64 (N : Int)] rfl rfl ?_ ?_ ?_ ?_ ?_ ?_)
        any_goals first | exact World.news_of_block (cs := #[.int .i64 37, .int .i64 0, .int .i64 0, .int .i64 0, .int .i64 (N : Int)]) (t := 44) (fr := (0, 0)) (heap_alloc_new wr _) | (simp [Value.oneCell']; done) | (unfold maxLen; omega) | omega | (simp; done) | (simp; omega)
        · intro v' w2 hown2 hgrow _
          have hb2 : Below w.heap.size w w2 := (HB.out.alloc (by omega) (Obj.cells #[.int .i64 37, .int .i64 0, .int .i64 0, .int .i64 0, .int .i64 (N : Int)] 44)).grown hgrow (by simp; omega) (fun k hk => (HO.out.lt k hk).1)
          have H2 := Lib.hid (And.intro hown2 hb2)
          clear hown2 hb2 hgrow
          go_wp2
          go_roundg (N - (k + 1))
          case measure => omega
          case rel => exact ⟨k + 1, by omega, rfl, by go_num, Lib.hid (by rw [Hst.out, List.flatMap_append]; exact H2.out.1), Lib.hid H2.out.2⟩
      · have e : y = N - 1 - k := by rw [hy.2, if_neg hle]
        have e2 : (N : Int) - 1 - (k : Int) = (y : Int) := by omega
        have k2 : ¬ (N : Int) - 1 - (k : Int) ≤ (k : Int) := by omega
        have k3 : ¬ (y : Int) ≤ (k : Int) := by omega
        clear hy e hle
        go_wp2_with (at_builtin; refine wpList_append_own _ rfl _ _ 45 rfl w.heap.size 44 i0 _ 5 40 Tryd.underlying45 hi0 hz0 hz1 hz2 rfl (by decide) (.slice A6 k c6) k (L.flatMap Mac.cells) rfl (HO.out.alloc _) ⟨wr.heap.size, 0, none⟩ 1 1 [.int .i64 37, .int .i64 0, .int .i64 0, .int .i64 0, .int .i64 (y : Int)] rfl rfl ?_ ?_ ?_ ?_ ?_ ?_)
        any_goals first | exact World.news_of_block (cs := #[.int .i64 37, .int .i64 0, .int .i64 0, .int .i64 0, .int .i64 (y : Int)]) (t := 44) (fr := (0, 0)) (heap_alloc_new wr _) | (simp [Value.oneCell']; done) | (unfold maxLen; omega) | omega | (simp; done) | (simp; omega)
        · intro v' w2 hown2 hgrow _
          have hb2 : Below w.heap.size w w2 := (HB.out.alloc (by omega) (Obj.cells #[.int .i64 37, .int .i64 0, .int .i64 0, .int .i64 0, .int .i64 (y : Int)] 44)).grown hgrow (by simp; omega) (fun k hk => (HO.out.lt k hk).1)
          have H2 := Lib.hid (And.intro hown2 hb2)
          clear hown2 hb2 hgrow
          go_wp2
          go_roundg (N - (k + 1))
          case measure => omega
          case rel => exact ⟨k + 1, by omega, rfl, by go_num, Lib.hid (by rw [Hst.out, List.flatMap_append]; exact H2.out.1), Lib.hid H2.out.2⟩
    · obtain rfl : k = N := by omega
      have hjl : jumpsL k = (List.range k).map (jumpM k) ++ [retM] := rfl
      have hlen := jumpsL_len k
      have hokj := jumpsL_ok (n := k) (by omega)
      have hpj := peep_jumps (n := k) (by omega)
      generalize (List.range k).map (jumpM k) = L at *
      generalize jumpsL k = J at *
      have Hjl := Lib.hid hjl
      have Hlen := Lib.hid hlen
      have Hokj := Lib.hid hokj
      have Hpj := Lib.hid hpj
      clear hjl hlen hokj hpj
      go_wp2_with (at_builtin; refine wpList_append_own _ rfl _ _ 45 rfl w.heap.size 44 i0 _ 5 40 Tryd.underlying45 hi0 hz0 hz1 hz2 rfl (by decide) (.slice A6 k c6) k (L.flatMap Mac.cells) rfl (HO.out.alloc _) ⟨wr.heap.size, 0, none⟩ 1 1 [.int .i64 45, .int .i64 0, .int .i64 0, .int .i64 0, .int .i64 0] rfl rfl ?_ ?_ ?_ ?_ ?_ ?_)
      any_goals first | exact World.news_of_block (cs := #[.int .i64 45, .int .i64 0, .int .i64 0, .int .i64 0, .int .i64 0]) (t := 44) (fr := (0, 0)) (heap_alloc_new wr _) | (simp [Value.oneCell']; done) | (unfold maxLen; omega) | omega | (simp; done) | (simp; omega)
      · intro v2 w2 hown2 hgrow _
        have hb2 : Below w.heap.size w w2 := (HB.out.alloc (by omega) (Obj.cells #[.int .i64 45, .int .i64 0, .int .i64 0, .int .i64 0, .int .i64 0] 44)).grown hgrow (by simp; omega) (fun k hk => (HO.out.lt k hk).1)
        have ho2 : w2.ownsRow w.heap.size 44 5 v2 J.length (J.flatMap Mac.cells) := by rw [Hlen.out, Hjl.out, List.flatMap_append]; exact hown2
        have Ho2 := Lib.hid ho2
        have Hb2 := Lib.hid hb2
        clear hown2 hgrow ho2 hb2
        go_wp2_with fail
        refine PeepDo_calls _ J _ (SLMac_own Ho2.out (Nat.le_refl _)) (HS.out.up Hb2.out h0) _ (fun _ w3 v3 hb3 ho3 => ?_) (fun e => absurd (by rw [macsOk_iff.2 Hokj.out]) e)
        rw [Hpj.out] at ho3
        obtain ⟨A3, c3, rfl⟩ := own_slice ho3
        have Ho3 := Lib.hid ho3
        have Hb3 := Lib.hid (Hb2.out.trans (hb3.mono Hb2.out.size))
        clear hb3 ho3
        go_wp2_with fail
        refine Picked_calls n1 16 (by omega) (by omega) H1.out _ _ ?_
        obtain ⟨a, ha⟩ : ∃ a : Nat, n1 % 16 = (a : Int) := ⟨(n1 % 16).toNat, by omega⟩
        have ha16 : a < 16 := by omega
        rw [ha]
        clear ha
        go_wp2_with fail
        have hai := peep_ring (a := (a : Int)) (by omega) (by omega)
        have hro := ring_ok (a := (a : Int)) (by omega) (by omega)
        have hcl : ([goM 1, sayM (a : Int), goM 0].flatMap Mac.cells) = [.int .i64 37, .int .i64 0, .int .i64 0, .int .i64 0, .int .i64 1, .int .i64 47, .int .i64 0, .int .i64 (a : Int), .int .i64 0, .int .i64 0, .int .i64 37, .int .i64 0, .int .i64 0, .int .i64 0, .int .i64 0] := rfl
        obtain ⟨W5, hW5⟩ : ∃ W5, W5 = ((w3.alloc (Obj.cells #[Value.int .i64 0, .int .i64 0] 31)).alloc (Obj.cells #[.int .i64 37, .int .i64 0, .int .i64 0, .int .i64 0, .int .i64 1, .int .i64 47, .int .i64 0, .int .i64 (a : Int), .int .i64 0, .int .i64 0, .int .i64 37, .int .i64 0, .int .i64 0, .int .i64 0, .int .i64 0] 44)) := ⟨_, rfl⟩
        rw [← hW5]
        have ho5 : W5.ownsRow (w3.heap.size + 1) 44 5 (.slice (some ⟨w3.heap.size + 1, 0, none⟩) 3 3) 3 ([goM 1, sayM (a : Int), goM 0].flatMap Mac.cells) := by
          rw [hW5, hcl]
          exact ⟨rfl, .inr ⟨w3.heap.size + 1, 3, _, rfl, Nat.le_refl _, heap_new (by simp), Nat.le_refl _, by decide, rfl, rfl⟩⟩
        have hE5 : W5.heap[w3.heap.size]? = some (.cells #[.int .i64 0, .int .i64 0] 31 (0, 0)) := by rw [hW5]; exact blk_alloc (heap_alloc_new _ _) _
        have hb5 : Below w3.heap.size w3 W5 := by rw [hW5]; exact bl0
        have HE5 := Lib.hid hE5
        have hsl5 := SLMac_own (xs := [goM 1, sayM (a : Int), goM 0]) ho5 (Nat.le_refl _)
        have Hsl5 := Lib.hid hsl5
        have Ho35 := Lib.hid (own_below Ho3.out hb5)
        have Hb5 := Lib.hid (Hb3.out.trans (hb5.mono Hb3.out.size))
        have Hai := Lib.hid hai
        have Hro := Lib.hid hro
        clear hW5 hcl ho5 hE5 hb5 hsl5 hai hro
        refine PeepDo_calls _ [goM 1, sayM (a : Int), goM 0] _ Hsl5.out (HS.out.up Hb5.out h0) _ (fun _ w6 v6 hb6 ho6 => ?_) (fun e => absurd (by rw [macsOk_iff.2 Hro.out]) e)
        rw [Hai.out] at ho6
        obtain ⟨g6, c6', rfl, hg6a, hg6b, hc6a, hc6b⟩ := own_some ho6 (by simp)
        have Ho36 := own_below Ho35.out hb6
        obtain ⟨g3, c3', hv3, hg3a, hg3b, hc3a, hc3b⟩ := own_some Ho36 (by simp)
        injection hv3 with e1 e2 e3
        subst e1 e3
        have M3 := ownM_at Ho36 rfl (k := 0) (by simp)
        have q3 : w6.cell? ⟨g3, 0, none⟩ = some (.int .i64 45) := M3.c0
        have M6 := ownM_at ho6 rfl (k := 0) (by simp)
        have q6 : w6.cell? ⟨g6, 0, none⟩ = some (.int .i64 47) := M6.c0
        have M7 := ownM_at ho6 rfl (k := 1) (by simp)
        have q7 : w6.cell? ⟨g6, 9, none⟩ = some (.int .i64 0) := M7.c4
        have hE6 := (hb6.block _ (blk_lt HE5.out)).trans HE5.out
        obtain ⟨e0, e1'⟩ := cells_blk hE6
        have hl6 := blk_lt hE6
        have Hf := Lib.hid (fun W' hb => HR.out W' ((Hb5.out.trans (hb6.mono Hb5.out.size)).trans hb) : ∀ W', Below w.heap.size w6 W' → R (.returned (.bool true)) W')
        have hw6 : w.heap.size ≤ w6.heap.size := Nat.le_trans Hb5.out.size hb6.size
        clear M3 M6 M7 hE6 hb6 ho6 Ho36
        go_wp2
        refine Hf.out _ bl0
end Go.Proofs.YtkcmijnaheapdaaDoor
