/- The globals, sections and objects that come in; mac.shapes, as the program's text lays it. -/
import Derived.Test.YtcakodemngchpaaGreatDoorRows
import Derived.ProofKit
import Derived.LaidMore
import Derived.OpenShut
import Derived.Stop.Joined
import Derived.Test.YtcakodemngchpaaGreatDoorPlainA
import Derived.Test.YtcakodemngchpaaGreatDoorMacB
namespace Go.Proofs.YtcakodemngchpaaGreatDoor
open Go.ChangeShapes Go.WideShapes Go.ChangeAt Go.RowKit
set_option linter.unusedVariables false
set_option linter.unusedSimpArgs false

def laidS {H : Type} : List (String × DataW H) := [("turnery/mac.shapes", Rows.laid_turnery_mac_shapes)]
theorem gShapes : Tryz.prog.globalNamed "turnery/mac.shapes" = some 0 := by kernel_rfl
theorem tShapes : (Tryz.prog.globals[0]?).map (·.type) = some 207 := by kernel_rfl
theorem door_met (os : Os) (args : Array Value) : laidMetH Tryz.prog laidS ((World.doorLaid Tryz.prog 400 os).forCall (fun _ _ => 0) ⟨#[], args, []⟩).memory :=
  laidMetH_of_parts3 (fuel := 8) (laidMet_of_run' 8 (by kernel_rfl) (by kernel_rfl)) (by kernel_rfl) (by kernel_rfl)

def shapeD {H : Type} (k : Nat) : DataW H := .agg [.lit (.bool (shapeTab.getD k ⟨false, false, false, 0⟩).d), .lit (.bool (shapeTab.getD k ⟨false, false, false, 0⟩).a), .lit (.bool (shapeTab.getD k ⟨false, false, false, 0⟩).b), .lit (.int .i64 (shapeTab.getD k ⟨false, false, false, 0⟩).n)]
def shapesL {H : Type} : DataW H → List (DataW H)
  | .agg l => l
  | _ => []
theorem shapes_at {H : Type} (k : Nat) (hk : k < 48) (h1 : k < 5 ∨ 32 < k) (h2 : k < 40 ∨ 43 < k) : (shapesL (Rows.laid_turnery_mac_shapes (H := H)))[k]? = some (shapeD k) := match k with
  | 0 => rfl
  | 1 => rfl
  | 2 => rfl
  | 3 => rfl
  | 4 => rfl
  | 5 => absurd h1 (by omega)
  | 6 => absurd h1 (by omega)
  | 7 => absurd h1 (by omega)
  | 8 => absurd h1 (by omega)
  | 9 => absurd h1 (by omega)
  | 10 => absurd h1 (by omega)
  | 11 => absurd h1 (by omega)
  | 12 => absurd h1 (by omega)
  | 13 => absurd h1 (by omega)
  | 14 => absurd h1 (by omega)
  | 15 => absurd h1 (by omega)
  | 16 => absurd h1 (by omega)
  | 17 => absurd h1 (by omega)
  | 18 => absurd h1 (by omega)
  | 19 => absurd h1 (by omega)
  | 20 => absurd h1 (by omega)
  | 21 => absurd h1 (by omega)
  | 22 => absurd h1 (by omega)
  | 23 => absurd h1 (by omega)
  | 24 => absurd h1 (by omega)
  | 25 => absurd h1 (by omega)
  | 26 => absurd h1 (by omega)
  | 27 => absurd h1 (by omega)
  | 28 => absurd h1 (by omega)
  | 29 => absurd h1 (by omega)
  | 30 => absurd h1 (by omega)
  | 31 => absurd h1 (by omega)
  | 32 => absurd h1 (by omega)
  | 33 => rfl
  | 34 => rfl
  | 35 => rfl
  | 36 => rfl
  | 37 => rfl
  | 38 => rfl
  | 39 => rfl
  | 40 => absurd h2 (by omega)
  | 41 => absurd h2 (by omega)
  | 42 => absurd h2 (by omega)
  | 43 => absurd h2 (by omega)
  | 44 => rfl
  | 45 => rfl
  | 46 => rfl
  | 47 => rfl
  | n + 48 => absurd hk (by omega)
set_option maxRecDepth 100000 in
theorem shape_cells {H : Type} {enc : TypeId × Value → H} {W : World} {base : Nat} {spare : Nat → Bool} {held : Bool} {fuel : Nat} {cs : List Value} {x : DataW H × List MemPlace} {a b c : Bool} {n : Int}
    (h : DataW.trod enc Tryz.prog W base spare held fuel 194 cs = some x) (hx : x.1 = .agg [.lit (.bool a), .lit (.bool b), .lit (.bool c), .lit (.int .i64 n)]) : cs = [.bool a, .bool b, .bool c, .int .i64 n] := by
  obtain ⟨xs, m, _, rfl, hlen, hxl, hg⟩ := DataW.trod_struct Tryz.underlying194 h
  have hl : cs.length = 4 := hlen.trans (by kernel_rfl)
  have cb : Tryz.prog.cellsOf 4 = 1 := by kernel_rfl
  have ci : Tryz.prog.cellsOf 3 = 1 := by kernel_rfl
  match cs, hl with
  | [c0, c1, c2, c3], _ =>
    match xs, hxl with
    | [x0, x1, x2, x3], _ =>
      have k0 := hg 0 _ rfl
      have k1 := hg 1 _ rfl
      have k2 := hg 2 _ rfl
      have k3 := hg 3 _ rfl
      simp only [cb, ci, List.drop_zero, List.drop_succ_cons, List.take_succ_cons, List.take_zero, List.getElem?_cons_zero, List.getElem?_cons_succ] at k0 k1 k2 k3
      obtain ⟨b0, e0, rfl⟩ := DataW.trod_bool Tryz.underlying4 k0
      obtain ⟨b1, e1, rfl⟩ := DataW.trod_bool Tryz.underlying4 k1
      obtain ⟨b2, e2, rfl⟩ := DataW.trod_bool Tryz.underlying4 k2
      obtain ⟨n3, e3, rfl, _⟩ := DataW.trod_int Tryz.underlying3 k3
      simp [cb, ci] at e0 e1 e2 e3 hx
      obtain ⟨r0, r1, r2, r3⟩ := hx
      rw [e0, e1, e2, e3, r0, r1, r2, r3]
theorem four_at {l : List Value} {a : Nat} {x0 x1 x2 x3 : Value} (h : (l.drop a).take 4 = [x0, x1, x2, x3]) : l[a]? = some x0 ∧ l[a + 1]? = some x1 ∧ l[a + 2]? = some x2 ∧ l[a + 3]? = some x3 := by
  have key : ∀ j, j < 4 → l[a + j]? = [x0, x1, x2, x3][j]? := fun j hj => by
    rw [← h, List.getElem?_take, if_pos hj, List.getElem?_drop]
  exact ⟨key 0 (by omega), key 1 (by omega), key 2 (by omega), key 3 (by omega)⟩
theorem of_laid {W : World} (h : laidMetH Tryz.prog laidS W) : Shapes W := by
  rw [MakeChecks.laidMetH_plain _ _ _ (by kernel_rfl)] at h
  obtain ⟨ps, ⟨g0, t0, cs0, f0, p0, q0, hg0, ht0, hv0, hd0, _, _⟩, _, _⟩ := h
  obtain rfl := Option.some.inj (gShapes.symm.trans hg0)
  obtain rfl := Option.some.inj (tShapes.symm.trans ht0)
  obtain ⟨xs, m1, _, hx1, hlen, hn, hel⟩ := DataW.trod_array Tryz.underlying207 hd0
  have hx2 : Rows.laid_turnery_mac_shapes = DataW.agg (xs.map (·.1)) := congrArg Prod.fst hx1
  have c4 : Tryz.prog.cellsOf 194 = 4 := by kernel_rfl
  have key : ∀ k : Nat, k < 48 → (k < 5 ∨ 32 < k) → (k < 40 ∨ 43 < k) →
      W.cell? ⟨0, k * 4, none⟩ = some (.bool (shapeTab.getD k ⟨false, false, false, 0⟩).d) ∧ W.cell? ⟨0, k * 4 + 1, none⟩ = some (.bool (shapeTab.getD k ⟨false, false, false, 0⟩).a) ∧
      W.cell? ⟨0, k * 4 + 2, none⟩ = some (.bool (shapeTab.getD k ⟨false, false, false, 0⟩).b) ∧ W.cell? ⟨0, k * 4 + 3, none⟩ = some (.int .i64 (shapeTab.getD k ⟨false, false, false, 0⟩).n) := fun k hk h1 h2 => by
    have hs := shapes_at (H := Unit) k hk h1 h2
    rw [hx2] at hs
    simp only [shapesL, List.getElem?_map, Option.map_eq_some_iff] at hs
    obtain ⟨x, hx, hxd⟩ := hs
    have he := hel k hk
    rw [hx, c4] at he
    have hc := four_at (shape_cells he hxd)
    have hv := fun i => World.var?_cell hg0 hv0 i
    simp only [hv]
    simpa using hc
  refine ⟨?_, key⟩
  exact World.block_lt_of_cell? W ⟨0, 0 * 4, none⟩ (key 0 (by omega) (by omega) (by omega)).1
end Go.Proofs.YtcakodemngchpaaGreatDoor
