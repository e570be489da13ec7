/- PeepShort's walk. -/
import Derived.Test.YtkcmijnaheapdaaDoorBase
import Derived.Test.YtkcmijnaheapdaaDoorRows
import Derived.IntWalk
import Derived.Outline
import Derived.Deep.LoopGhost
import Derived.Deep.RegionLaw
import Derived.Test.YtkcmijnaheapdaaDoorPk17
import Derived.Test.YtkcmijnaheapdaaDoorKitX
import Derived.Test.YtkcmijnaheapdaaDoorKitPm
import Derived.Test.YtkcmijnaheapdaaDoorSameM
namespace Go.Proofs.YtkcmijnaheapdaaDoor
open Go.RowKit
set_option linter.unusedSimpArgs false
set_option linter.unusedVariables false

/-- append of a row of instructions onto nil. -/
theorem app_nil_mac {ops : Array Oper} {rest : List Oper} {o : Oper} {a : Act} {w : World} {Q : Exit → Act → World → Prop} (hgd : o.guard = none) (s x : Operand) (ho : o.op = .call { callee := .builtin .append, args := #[s, x], argTypes := #[45, 45] })
    (hs : a.eval s = .slice none 0 0) (ad : Addr) (n c : Nat) (M : List Mac) (hx : a.eval x = .slice (some ad) n c) (hn : M.length = n) (hfew : n ≤ 5000) (hnews : ∀ j u, (M.flatMap Mac.cells)[j]? = some u → w.cell? (ad.add j) = some u)
    (h : ∀ v' w', w'.ownsRow w.heap.size 44 5 v' n (M.flatMap Mac.cells) → w.grownBy w' none → wpList Tryd.prog ops Q rest (a.put o.dst v') w') : wpList Tryd.prog ops Q (o :: rest) a w := by
  obtain ⟨i0, hi0, hz0, hz1, hz2⟩ := info_parts info_Mac
  have hfl : (M.flatMap Mac.cells).length = n * 5 := by rw [flat_length Mac.cells 5 (fun _ => rfl), hn]
  refine wpList_append_own w hgd s x 45 ho w.heap.size 44 i0 _ 5 40 Tryd.underlying45 hi0 hz0 hz1 hz2 rfl (by decide) (.slice none 0 0) 0 [] hs (World.ownsRow_nil _ _ _ _) ad n c (M.flatMap Mac.cells) hx hfl hnews (one_Mac M) (by unfold maxLen; omega) (by omega) (Nat.le_refl _) (fun v' w' h1 h2 _ => h v' w' ?_ h2)
  rw [Nat.zero_add, List.nil_append] at h1
  exact h1
set_option maxRecDepth 100000 in
set_option maxHeartbeats 2000000 in
theorem PeepShort_calls (raw : List Int) (v : Value) (w : World) (h : rpInt.SL w w.heap.size raw v) (hi : ∀ x ∈ raw, I64 x) (hS : Shapes w) (R : Ending → World → Prop) (hR : ∀ w', Below w.heap.size w w' → R (.returned (.bool true)) w') :
    Calls Tryd.prog 7 #[v] w R := by
  have h0 := hS.1
  have HS := Lib.hid hS
  have HR := Lib.hid hR
  obtain ⟨i0, hi0, hz0, hz1, hz2⟩ := info_parts info_Mac
  clear hR hS
  go_enter Tryd.func7, Tryd.ntmps7
  go_wp2_with fail
  refine CodeOf_calls raw _ 30 3 _ h hi (by omega) (by omega) _ (fun w1 v1 hb1 ho1 => ?_)
  have hf := code_fault (l := raw) (n := 30) (r := 3) (by omega)
  have hok := macsOk_iff.1 hf
  generalize codeOf raw 30 3 = L at *
  have Hok := Lib.hid hok
  have Ho1 := Lib.hid ho1
  have Hb1 := Lib.hid hb1
  have Hf := Lib.hid hf
  clear hb1 ho1 h hf hok
  go_wp2_with fail
  refine PeepDo_calls _ L _ (SLMac_own Ho1.out (Nat.le_refl _)) (HS.out.up Hb1.out h0) _ (fun _ w2 v2 hb2 ho2 => ?_) (fun e => absurd (by rw [Hf.out]) e)
  have hok2 := peepL_ok Hok.out
  have hle := peepL_len Hok.out
  have hag := peepL_again Hok.out
  have hf2 := macsOk_iff.2 hok2
  obtain ⟨A1, c1, rfl⟩ := own_slice Ho1.out
  obtain ⟨N1, hN1⟩ : ∃ N1, L.length = N1 := ⟨_, rfl⟩
  rw [hN1] at hle ⊢
  generalize peepL L = M at *
  obtain ⟨g2, c2, rfl, hg2a, hg2b, hc2a, hc2b⟩ := own_some ho2 hok2.some_
  have hpos := hok2.some_
  have hfew := hok2.few
  have Hok2 := Lib.hid hok2
  have Ho2 := Lib.hid ho2
  have Hb2 := Lib.hid (Hb1.out.trans (hb2.mono Hb1.out.size))
  have Hag := Lib.hid hag
  have Hf2 := Lib.hid hf2
  obtain ⟨N2, hN2⟩ : ∃ N2, M.length = N2 := ⟨_, rfl⟩
  have HN2 := Lib.hid hN2
  rw [hN2] at hle hpos hfew ⊢
  have hnews : ∀ j u, (M.flatMap Mac.cells)[j]? = some u → (w2.alloc (Obj.cells #[.int .i64 0, .int .i64 0] 31)).cell? ((⟨g2, 0, none⟩ : Addr).add j) = some u := fun j u hj => by
    have hlt : j < M.length * 5 := by
      have := (List.getElem?_eq_some_iff.1 hj).1
      rwa [flat_length Mac.cells 5 (fun _ => rfl)] at this
    rw [Addr.add_lit, Nat.zero_add, World.cell?_alloc_lt _ _ _ hg2b]
    exact (ho2.cellAt j hlt).trans hj
  have Hnews := Lib.hid hnews
  have hfl := flat_length Mac.cells 5 (fun _ => rfl) M
  rw [hN2] at hfl
  have Hfl := Lib.hid hfl
  clear hb2 ho2 hok2 hag hf2 hN1 hN2 hnews hfl
  go_wp2_with (at_builtin; refine app_nil_mac rfl _ _ rfl rfl ⟨g2, 0, none⟩ N2 c2 M rfl HN2.out hfew Hnews.out ?_)
  intro v3 w3 hown3 hg3
  have hbA : Below w2.heap.size w2 (w2.alloc (Obj.cells #[.int .i64 0, .int .i64 0] 31)) := bl0
  have hb23 : Below w2.heap.size w2 w3 := hbA.trans ((Below.grown (Below.refl _ _) hg3 (Nat.le_refl _) (fun k hk => by cases hk) : Below (w2.alloc (Obj.cells #[.int .i64 0, .int .i64 0] 31)).heap.size (w2.alloc (Obj.cells #[.int .i64 0, .int .i64 0] 31)) w3).mono (by simp))
  have hE3 : w3.heap[w2.heap.size]? = some (.cells #[.int .i64 0, .int .i64 0] 31 (0, 0)) := (hg3.block _ (by simp) (by simp)).trans (heap_alloc_new _ _)
  rw [← HN2.out] at hown3
  have hsl3 := SLMac_own hown3 (Nat.le_refl _)
  have hsl2 := SLMac_own (B := w2.heap.size) Ho2.out (Nat.le_refl _)
  rw [HN2.out] at hown3
  obtain ⟨A3, c3, rfl⟩ := own_slice hown3
  have Hsl3 := Lib.hid hsl3
  have Hb3 := Lib.hid (Hb2.out.trans (hb23.mono Hb2.out.size))
  have HE3 := Lib.hid hE3
  have Hsl2 := Lib.hid (hsl2.up hb23 hb23.size)
  clear hown3 hg3 hbA hb23 hE3 hsl3 hsl2
  go_wp2_with fail
  refine PeepDo_calls _ M _ Hsl3.out (HS.out.up Hb3.out h0) _ (fun _ w4 v4 hb4 ho4 => ?_) (fun e => absurd (by rw [Hf2.out]) e)
  rw [Hag.out] at ho4
  have hsl4 := SLMac_own (B := w4.heap.size) ho4 (Nat.le_refl _)
  obtain ⟨A4, c4, rfl⟩ := own_slice ho4
  have Hsl4 := Lib.hid hsl4
  have hE4 := (hb4.block _ (blk_lt HE3.out)).trans HE3.out
  obtain ⟨e0, e1⟩ := cells_blk hE4
  have hl4 := blk_lt hE4
  have Hb4 := Lib.hid (Hb3.out.trans (hb4.mono Hb3.out.size))
  have Hsl2' := Lib.hid (Hsl2.out.up hb4 hb4.size)
  rw [HN2.out]
  rw [HN2.out] at Hsl4 Hsl2'
  have j1 : decide (0 < N2) = true := decide_eq_true hpos
  have j2 : decide (N2 ≤ N1) = true := decide_eq_true hle
  have j3 : (0 : Int) < (N2 : Int) := by omega
  have j4 : (N2 : Int) ≤ (N1 : Int) := by omega
  have hw4 : w.heap.size ≤ w4.heap.size := Hb4.out.size
  clear hb4 ho4 hsl4 hE4
  go_wp2_with fail
  have hb4A : Below w4.heap.size w4 (w4.alloc (Obj.cells #[.int .i64 0, .int .i64 0] 31)) := bl0
  refine SameMacs_calls _ _ M M _ w4.heap.size (Hsl2'.out.below hb4A) (Hsl4.out.below hb4A) _ (fun n => ?_)
  rw [show decide (M = M) = true from decide_eq_true rfl]
  have Hb5 := Lib.hid (below_drewN (Hb4.out.trans (hb4A.mono hw4)) n)
  clear hb4A
  go_wp2
  exact HR.out _ Hb5.out
end Go.Proofs.YtkcmijnaheapdaaDoor
