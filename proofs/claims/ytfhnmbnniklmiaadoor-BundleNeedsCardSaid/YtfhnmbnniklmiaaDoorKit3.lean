/- Digits of a small number; the globals of a small memory; an instruction's bytes. -/
import Derived.Test.YtfhnmbnniklmiaaDoorBase
import Derived.Test.YtfhnmbnniklmiaaDoorRows
import Derived.IntWalk
import Derived.Deep.LoopGhost
import Derived.Deep.CutBlock
import Derived.Deep.DeepCutAuto
import Derived.Outline
import Derived.Test.YtfhnmbnniklmiaaDoorKit1
import Derived.Test.YtfhnmbnniklmiaaDoorAppA
import Derived.Test.YtfhnmbnniklmiaaDoorSaveA
namespace Go.Proofs.YtfhnmbnniklmiaaDoor
open Go.RowKit
set_option linter.unusedSimpArgs false
set_option linter.unusedVariables false

def digitS (n : Nat) : ByteArray := ⟨#[UInt8.ofNat (48 + n)]⟩
theorem digit_cut (n : Nat) (hn : n < 10) : (⟨#[48, 49, 50, 51, 52, 53, 54, 55, 56, 57]⟩ : ByteArray).extract n (n + 1) = digitS n := by
  match n, hn with
  | 0, _ => rfl
  | 1, _ => rfl
  | 2, _ => rfl
  | 3, _ => rfl
  | 4, _ => rfl
  | 5, _ => rfl
  | 6, _ => rfl
  | 7, _ => rfl
  | 8, _ => rfl
  | 9, _ => rfl
set_option maxRecDepth 100000 in
set_option maxHeartbeats 4000000 in
theorem Digits_calls (n : Nat) (hn : n < 10) (w : World) (R : Ending → World → Prop) (hR : R (.returned (.string (digitS n))) w) :
    Calls Tryd.prog 89 #[.int .i64 (n : Int)] w R := by
  have HR := Lib.hid hR
  clear hR
  have i0 : ¬ (n : Int) < 0 := by omega
  have i1 : (n : Int) < 10 := by omega
  have i2 : (0 : Int) ≤ (n : Int) := by omega
  go_enter Tryd.func89, Tryd.ntmps89
  go_wp2
  rw [digit_cut n hn]
  exact HR.out

def kitGlobals : List Global := [⟨⟨#[103]⟩, 2, [5]⟩, ⟨⟨#[104]⟩, 1, []⟩]
set_option maxRecDepth 100000 in
set_option maxHeartbeats 4000000 in
theorem KitGlobals_calls (w : World) (R : Ending → World → Prop)
    (hR : ∀ w' v', Below w.heap.size w w' → rpGlobal.SLF w' w.heap.size w'.heap.size kitGlobals v' → R (.returned v') w') :
    Calls Tryd.prog 88 #[] w R := by
  have HR := Lib.hid hR
  clear hR
  go_enter Tryd.func88, Tryd.ntmps88
  go_wp2
  refine HR.out _ _ bl0 ?_
  obtain ⟨W, hW⟩ : ∃ W, W = (w.alloc (Obj.cells #[.int .i64 5] 3)).alloc (Obj.cells #[.string ⟨#[103]⟩, .int .i64 2, .slice (some ⟨w.heap.size, 0, none⟩) 1 1, .string ⟨#[104]⟩, .int .i64 1, .slice none 0 0] 111) := ⟨_, rfl⟩
  rw [← hW]
  have hz : W.heap.size = w.heap.size + 2 := by subst hW; simp
  have h0 : W.heap[w.heap.size]? = some (.cells #[.int .i64 5] 3 (0, 0)) := by subst hW; exact blk_alloc (heap_alloc_new _ _) _
  have h1 : W.heap[w.heap.size + 1]? = some (.cells #[.string ⟨#[103]⟩, .int .i64 2, .slice (some ⟨w.heap.size, 0, none⟩) 1 1, .string ⟨#[104]⟩, .int .i64 1, .slice none 0 0] 111 (0, 0)) := by
    subst hW
    have := heap_alloc_new (w.alloc (Obj.cells #[.int .i64 5] 3)) (Obj.cells #[.string ⟨#[103]⟩, .int .i64 2, .slice (some ⟨w.heap.size, 0, none⟩) 1 1, .string ⟨#[104]⟩, .int .i64 1, .slice none 0 0] 111)
    simpa using this
  have hc0 : ∀ j, (only W fun k => decide (w.heap.size ≤ k)).cell? ⟨w.heap.size, j, none⟩ = W.cell? ⟨w.heap.size, j, none⟩ := fun j => only_cell_of _ _ _ (by simp)
  have hc1 : ∀ j, (only W fun k => decide (w.heap.size ≤ k)).cell? ⟨w.heap.size + 1, j, none⟩ = W.cell? ⟨w.heap.size + 1, j, none⟩ := fun j => only_cell_of _ _ _ (by simp)
  have hin : rpInt.SL (only W fun k => decide (w.heap.size ≤ k)) W.heap.size [5] (.slice (some ⟨w.heap.size, 0, none⟩) 1 1) := by
    refine ⟨_, 1, rfl, by decide, Nat.le_refl _, fun _ => ⟨w.heap.size, 0, rfl, by omega, fun k x hx => ?_⟩⟩
    rcases k with _ | k
    · simp at hx
      subst hx
      refine ⟨_, rfl, fun j u hj => ?_⟩
      rcases j with _ | j
      · simp at hj
        subst hj
        rw [hc0]
        simp [World.cell?, h0]
      · simp at hj
    · simp at hx
  refine ⟨_, 2, rfl, by decide, Nat.le_refl _, fun _ => ⟨w.heap.size + 1, 0, rfl, by omega, fun k x hx => ?_⟩⟩
  rcases k with _ | _ | k
  · simp [kitGlobals] at hx
    subst hx
    refine ⟨_, rpGlobal_mk hin, fun j u hj => ?_⟩
    rcases j with _ | _ | _ | j
    all_goals first
      | (simp at hj; subst hj; rw [hc1]; simp [World.cell?, h1]; done)
      | simp at hj
  · simp [kitGlobals] at hx
    subst hx
    refine ⟨_, rpGlobal_mk (Rp.SL.nil _ _ _), fun j u hj => ?_⟩
    rcases j with _ | _ | _ | j
    all_goals first
      | (simp at hj; subst hj; rw [hc1]; simp [World.cell?, h1, rpGlobal_size]; done)
      | simp at hj
  · simp [kitGlobals] at hx
end Go.Proofs.YtfhnmbnniklmiaaDoor
