/- Package live: a set cloned; listed; all of them. Sets by maps: ranged over; set.put, set.rising. clash.Back, plainly: what is done with each instruction, from behind, with what is live behind it. live.AllOf, plainly: the sets on the way, and what is left to come. Rows of sets: a set's memory apart; an element replaced. -/
import Derived.Test.YtdanebboiekieaaGreatDoorQ15
import Derived.Test.YtdanebboiekieaaGreatDoorQ01
import Derived.Test.YtdanebboiekieaaGreatDoorRows
import Derived.IntWalk
import Derived.Outline
import Derived.Deep.LoopGhost
import Derived.Deep.QuietTactic
import Derived.Deep.AppendLies
import Derived.Laws.AppendOwnNone
import Derived.Test.YtdanebboiekieaaGreatDoorQ03
import Derived.Test.YtdanebboiekieaaGreatDoorQ05
import Derived.Test.YtdanebboiekieaaGreatDoorQ07
import Derived.Deep.CutBlock
import Derived.Deep.DeepCutAuto
import Derived.Maps.OwnIn
import Derived.Test.YtdanebboiekieaaGreatDoorQ06
namespace Go.Proofs.YtdanebboiekieaaGreatDoor
open Go.RowKit
set_option linter.unusedSimpArgs false
set_option linter.unusedVariables false

theorem one_bit (xs : List Bool) : ∀ u ∈ xs.flatMap bitCells, u.oneCell' = true := by
 intro u hu
 obtain ⟨m, _, hm⟩ := List.mem_flatMap.1 hu
 simp [bitCells] at hm
 subst hm
 rfl
/-- The registers of a set, rising. -/
def setTo (S : List Bool) (k : Nat) : List Int := ((List.range k).filter fun r => bAt S r).map fun r : Nat => (r : Int)
def setL (S : List Bool) : List Int := setTo S S.length
theorem setTo_step (S : List Bool) (k : Nat) : setTo S (k + 1) = setTo S k ++ (if bAt S k = true then [(k : Int)] else []) := by
 unfold setTo
 rw [List.range_succ, List.filter_append, List.map_append]
 congr 1
 by_cases h : bAt S k = true <;> simp [h]
theorem setTo_len (S : List Bool) (k : Nat) : (setTo S k).length ≤ k := by
 unfold setTo
 rw [List.length_map]
 exact Nat.le_trans (List.length_filter_le _ _) (by simp)
set_option maxRecDepth 100000 in
set_option maxHeartbeats 2000000 in
theorem list_calls (S : List Bool) (v : Value) (w : World) (h : rpBool.SL w w.heap.size S v) (hn : S.length ≤ 100) (R : Ending → World → Prop)
 (hR : ∀ w' v', Below w.heap.size w w' → w'.ownsRow w.heap.size 3 1 v' (setL S).length ((setL S).flatMap intCells) → R (.returned v') w') :
 Calls Tryz.prog 121 #[v] w R := by
 obtain ⟨A, c, rfl, hm, _, h⟩ := h.cases_
 have HR := Lib.hid hR
 have H := Lib.hid h
 clear hR h
 go_enter Tryz.func121, Tryz.ntmps121
 go_wp2
 go_loopg [3, 8] S.length (fun g s3 s8 wr => ∃ k : Nat, k ≤ S.length ∧ g = S.length - k ∧ s8 = .int .i64 (k : Int) ∧ Hid (wr.ownsRow w.heap.size 3 1 s3 (setTo S k).length ((setTo S k).flatMap intCells)) ∧ Hid (Below w.heap.size w wr))
 case atStart => exact ⟨0, Nat.zero_le _, rfl, rfl, Lib.hid (World.ownsRow_nil _ _ _ _), Lib.hid bl0⟩
 case round =>
  obtain ⟨k, hk, rfl, rfl, Ho, Hb⟩ := hrel
  have i1 : (0 : Int) ≤ (k : Int) := Int.natCast_nonneg _
  have hz := Hb.out.size
  obtain ⟨A6, c6, hs6⟩ := own_slice Ho.out
  subst hs6
  by_cases hlt : k < S.length
  ·obtain ⟨b, off, rfl, hb, q0⟩ := H.out.bool_at hlt
   have p0 := (Hb.out.cell (p := ⟨b, off + k, none⟩) hb).trans q0
   have lb : b < wr.heap.size := by omega
   have i2 : (k : Int) < (S.length : Int) := by omega
   have Hst := Lib.hid (setTo_step S k)
   have hfw : (setTo S k).length ≤ 100 := Nat.le_trans (setTo_len S k) (by omega)
   generalize setTo S k = X at *
   cases hx : bAt S k
   ·rw [hx] at p0 Hst
    clear q0 hx
    have HX : Hid (setTo S (k + 1) = X) := Lib.hid (by rw [Hst.out]; simp)
    go_wp2
    go_roundg (S.length - (k + 1))
    case measure => omega
    case rel => exact ⟨k + 1, hlt, rfl, by go_num, by rw [HX.out]; exact Ho, Hb⟩
   ·rw [hx] at p0 Hst
    clear q0 hx
    have HX : Hid (setTo S (k + 1) = X ++ [(k : Int)]) := Lib.hid (by rw [Hst.out]; simp)
    have Hfw := Lib.hid hfw
    have hgr : w.heap.size ≤ (wr.alloc (Obj.cells #[.int .i64 (k : Int)] 3)).heap.size := by simp; omega
    have Hbal := Lib.hid (Hb.out.alloc hz (Obj.cells #[.int .i64 (k : Int)] 3))
    have Hlo : Hid (∀ j, (Value.slice A6 X.length c6).ownBlock = some j → w.heap.size ≤ j) := Lib.hid fun j e => (Ho.out.lt j e).1
    clear hfw
    go_wp2_with (at_builtin; refine app_one rfl _ _ rfl (v := .slice A6 X.length c6) rfl (Ho.out.alloc _) wr.heap.size (k : Int) rfl (heap_alloc_new _ _) Hfw.out hgr ?_)
    intro v7 w7 hown7 hg7 hat7
    have hown8 : w7.ownsRow w.heap.size 3 1 v7 (X ++ [(k : Int)]).length ((X ++ [(k : Int)]).flatMap intCells) := by simpa using hown7
    have hb7 := Hbal.out.trans ((Grew.of_grown hg7).below (B := w.heap.size) (fun j hj e => by have := Hlo.out j e; omega) (by simp; omega))
    have Hown8 := Lib.hid hown8
    have Hb7 := Lib.hid hb7
    clear hown7 hg7 hat7 hown8 hb7
    go_wp2
    go_roundg (S.length - (k + 1))
    case measure => omega
    case rel => exact ⟨k + 1, hlt, rfl, by go_num, by rw [HX.out]; exact Hown8, Hb7⟩
  ·obtain rfl : k = S.length := by omega
   have Hfin := Lib.hid (HR.out _ _ Hb.out Ho.out)
   have i2 : ¬ ((S.length : Int) < (S.length : Int)) := by omega
   go_wp2
   exact Hfin.out
def listsTo (V : List (List Bool)) (k : Nat) : List (List Int) := (V.take k).map setL
theorem listsTo_step {V : List (List Bool)} {k : Nat} (h : k < V.length) : listsTo V (k + 1) = listsTo V k ++ [setL V[k]] := by
 unfold listsTo
 rw [List.take_succ_eq_append_getElem h, List.map_append]
 rfl
theorem listsTo_len {V : List (List Bool)} {k : Nat} (h : k ≤ V.length) : (listsTo V k).length = k := by
 unfold listsTo
 rw [List.length_map, List.length_take]
 omega
set_option maxRecDepth 100000 in
set_option maxHeartbeats 4000000 in
theorem lists_calls (V : List (List Bool)) (v : Value) (w : World) (h : rpBool.slice.SL w w.heap.size V v) (hn : V.length ≤ 100) (hr : ∀ S ∈ V, S.length ≤ 100) (R : Ending → World → Prop)
 (hR : ∀ w' v', Below w.heap.size w w' → rpInt.slice.SLF w' w.heap.size w'.heap.size (V.map setL) v' → R (.returned v') w') :
 Calls Tryz.prog 91 #[v] w R := by
 obtain ⟨iC, hiC, zC0, zC1, zC2⟩ := info_parts info_ints2
 obtain ⟨A, c, rfl, hm, _, h⟩ := h.cases_
 have HR := Lib.hid hR
 have H := Lib.hid h
 have Hr := Lib.hid hr
 clear hR h hr
 go_enter Tryz.func91, Tryz.ntmps91
 go_wp2
 go_loopg [3, 8] V.length (fun gh s3 s8 wr => ∃ (k : Nat) (css : List (List Value)), k ≤ V.length ∧ gh = V.length - k ∧ s8 = .int .i64 (k : Int) ∧ Hid (Built rpInt.slice w.heap.size 26 (fun b => b < w.heap.size) wr s3 (listsTo V k) css) ∧ Hid (Below w.heap.size w wr))
 case atStart => exact ⟨0, [], Nat.zero_le _, rfl, rfl, Lib.hid (Built.nil _ _ _ _ _ (fun _ h => h)), Lib.hid (Below.refl _ _)⟩
 case round =>
  obtain ⟨k, css, hk, rfl, rfl, Hbu, Hbel⟩ := hrel
  have hz2 := Hbel.out.size
  obtain ⟨A6, n6, hs6⟩ := own_slice Hbu.out.own
  subst hs6
  by_cases hlt : k < V.length
  ·obtain ⟨bi, oi, ui, rfl, hbi, i0, hui⟩ := H.out.row_at hlt
   obtain ⟨Au, cu, rfl, _, _, hui⟩ := hui.cases_
   have j0 := (Hbel.out.cell (p := ⟨bi, oi + k, none⟩) hbi).trans i0
   have lbi : bi < wr.heap.size := by omega
   have hS : V[k].length ≤ 100 := Hr.out _ (List.getElem_mem hlt)
   have Hui := Lib.hid (hui.up Hbel.out hz2)
   have Hst := Lib.hid (listsTo_step hlt)
   have Hll := Lib.hid (listsTo_len (V := V) (k := k) hk)
   generalize V[k] = S at *
   generalize listsTo V k = LT at *
   rw [Hll.out] at Hbu
   rw [Hll.out]
   have i1 : (0 : Int) ≤ (k : Int) := by omega
   have i2 : (k : Int) < (V.length : Int) := by omega
   clear hui i0 hbi
   go_wp2_with fail
   refine list_calls S _ _ Hui.out hS _ (fun w5 v5 hb5 hown5 => ?_)
   generalize setL S = L at *
   obtain ⟨A5, c5, rfl⟩ := own_slice hown5
   have Ho5 := Lib.hid hown5
   have hlr := Hbu.out.own.lt
   have Hlr := Lib.hid hlr
   have hz5 := hb5.size
   have HBu5 := Lib.hid ((Hbu.out.below hb5 (Nat.le_refl _)).alloc (Obj.cells #[.slice A5 L.length c5] 26))
   have Hap : Hid (Apart rpInt.slice (fun b => b < w.heap.size) (w5.alloc (Obj.cells #[.slice A5 L.length c5] 26)) (.slice A6 k n6) L [.slice A5 L.length c5]) := Lib.hid (Apart.of_only (base := wr.heap.size) ⟨_, rfl, SLint_own (ownsRow_only (Ho5.out.alloc _)) (by rw [only_size]; exact Nat.le_refl _)⟩ (fun k (h : k < w.heap.size) => by omega) (fun g hg => by have := (Hlr.out g hg).2; omega))
   have Hbel5 := Lib.hid (Hbel.out.trans (hb5.mono hz2))
   clear hb5 hown5 hlr j0
   have hwz5 : w.heap.size ≤ w5.heap.size := by omega
   go_wp2_with (at_builtin; refine wpList_append_lies _ rfl _ _ 87 rfl w.heap.size 26 iC _ 1 24 Tryz.underlying87 hiC zC0 zC1 zC2 rfl (by decide) (.slice A6 k n6) k css.flatten rfl (by have := HBu5.out.own; rw [Hll.out] at this; exact this) ⟨w5.heap.size, 0, none⟩ 1 1 [.slice A5 L.length c5] rfl rfl ?_ ?_ (by decide) ?_ ?_ ?_ _ rfl ?_)
   any_goals (first | with_reducible exact World.news_of_block (cs := #[.slice A5 L.length c5]) (t := 26) (fr := (0, 0)) (heap_alloc_new _ _) | (simp [Value.oneCell']; done) | (unfold maxLen; omega) | omega | (simp; done) | (simp; omega))
   intro gb cap w9 hown9 hgrow9 hat9 hlt9
   have HB9 := Lib.hid (HBu5.out.push hown9 (by rw [Hll.out]) hgrow9 (by simpa using hat9) Hap.out)
   have Hbel9 := Lib.hid ((Hbel5.out.alloc hwz5 _).trans ((Grew.of_grown hgrow9).below (B := w.heap.size) (fun j hj e => by have := (Hlr.out j e).1; omega) (by simp; omega)))
   clear hown9 hgrow9 hat9 hlt9
   go_wp2
   go_roundg (V.length - (k + 1))
   case measure => omega
   case rel => exact ⟨k + 1, _, by omega, rfl, by go_num, by rw [Hst.out]; exact HB9, Hbel9⟩
  ·obtain rfl : k = V.length := by omega
   have Hfin := Lib.hid (HR.out _ _ Hbel.out (by
    have := Hbu.out.SLF (b := w.heap.size) (B := wr.heap.size) (fun k hk => hk) (by omega) (Nat.le_refl _)
    unfold listsTo at this
    rwa [List.take_length] at this))
   have i2 : ¬ ((V.length : Int) < (V.length : Int)) := by omega
   go_wp2
   simpa [listsTo] using Hfin.out
end Go.Proofs.YtdanebboiekieaaGreatDoor
namespace Go.Proofs.YtdanebboiekieaaGreatDoor
open Go.RowKit
set_option linter.unusedSimpArgs false
set_option linter.unusedVariables false
open Go.Maps Go.WideShapes Go.MapKept Go.ChangeMaps Go.ChangeShapes

/-- A set that is ranged over: Lf are still to come. -/
def SetR (w : World) (B r : Nat) (X Lf : Int → Bool) (cnt : Nat) : Prop :=
 ∃ (D : DataW Value) (l : List Int) (left : Lit → Bool), w.ranges Tryz.prog 3 unitElem B r l.length D left cnt ∧ (∀ x, Maps.has D (.int .i64 x) = X x) ∧ (l.Nodup ∧ (∀ x, x ∈ l ↔ X x = true) ∧ l.length = Maps.size D ∧ ∀ x, X x = true → 0 ≤ x ∧ x < 100) ∧ (∀ x, left (.int .i64 x) = Lf x) ∧ ∀ x, Lf x = true → X x = true
theorem SetR.set {w : World} {B r : Nat} {X Lf : Int → Bool} {cnt : Nat} (h : SetR w B r X Lf cnt) : SetM w B X := by
 obtain ⟨D, l, left, h1, h2, h3, _⟩ := h
 exact ⟨D, l, h1.owns, h2, h3⟩
theorem SetR.kept {w w' : World} {B r : Nat} {X Lf : Int → Bool} {cnt : Nat} {row : Option Nat} (h : SetR w B r X Lf cnt) (hg : w.grownBy w' row) (hb : some B ≠ row) (hr : some r ≠ row) : SetR w' B r X Lf cnt := by
 obtain ⟨D, l, left, h1, h2⟩ := h
 exact ⟨D, l, left, h1.kept hg hb hr, h2⟩
theorem SetR.lt {w : World} {B r : Nat} {X Lf : Int → Bool} {cnt : Nat} (h : SetR w B r X Lf cnt) : r < w.heap.size := by
 obtain ⟨D, l, left, h1, _⟩ := h
 exact h1.lt
theorem sameKey_int (x y : Int) : (Lit.int .i64 x).sameKey (.int .i64 y) = decide (x = y) := by
 simp [Lit.sameKey]
/-- 'range m'. -/
theorem wpList_rangeM {w : World} {ops : Array Oper} {rest : List Oper} {o : Oper} {a : Act} {Q : Exit → Act → World → Prop} (hg : o.guard = none) (m : Operand) (t : TypeId) (hop : o.op = Op.range t m) (ht : Tryz.prog.underlying t = some (.map 3 117))
 (B : Nat) (X : Int → Bool) (hm : a.eval m = .map (some B)) (h : SetM w B X)
 (hK : ∀ w' cnt, SetR w' B w.heap.size X X cnt → w.grownBy w' none → w'.heap.size = w.heap.size + 1 → wpList Tryz.prog ops Q rest (a.put o.dst (.pointer (some ⟨w.heap.size, 0, none⟩))) w') :
 wpList Tryz.prog ops Q (o :: rest) a w := by
 obtain ⟨D, l, h1, h2, h3⟩ := h
 exact wpList_range_own w hg m t hop 3 117 lawI ht unitElem B l.length D hm h1 fun w' r1 r2 r3 => hK w' _ ⟨D, l, _, r1, h2, h3, fun x => h2 x, fun x hx => hx⟩ r2 r3
/-- The next of them. -/
theorem wpList_nextM {w : World} {ops : Array Oper} {rest : List Oper} {o : Oper} {a : Act} {Q : Exit → Act → World → Prop} (hg : o.guard = none) (it : Operand) (hop : o.op = Op.next it false)
 (B r : Nat) (X Lf : Int → Bool) (cnt : Nat) (hit : a.eval it = .pointer (some ⟨r, 0, none⟩)) (h : SetR w B r X Lf cnt)
 (hDone : (∀ x, Lf x = false) → wpList Tryz.prog ops Q rest (a.put o.dst (.tuple #[.bool false])) w)
 (hMore : ∀ (x : Int) (w' : World) (cnt' : Nat), Lf x = true → (0 ≤ x ∧ x < 100) → SetR w' B r X (fun z => Lf z && !decide (z = x)) cnt' → cnt' < cnt → w.grownBy w' (some r) → w'.heap.size = w.heap.size →
  (Instr.entry (.pointer (some ⟨r, 0, none⟩))).run Tryz.prog w' = .ok (.tuple #[.int .i64 x, .agg #[]]) w' → wpList Tryz.prog ops Q rest (a.put o.dst (.tuple #[.bool true, .int .i64 x, .agg #[]])) w') :
 wpList Tryz.prog ops Q (o :: rest) a w := by
 obtain ⟨D, l, left, h1, h2, h3, h4, h5⟩ := h
 refine wpList_next_ranges (α := Int) (β := Unit) w hg it hop 3 lawI unitElem (Value.int .i64) (fun _ => .agg #[]) (fun key kl hk => ?_) (fun v y hv => ⟨(), (unitElem_inv hv).1⟩) B r l.length D left cnt hit h1
  (fun _ hl => hDone fun x => by rw [← h4]; exact hl _) (fun x c kl y w' cnt' hkey hlk hv hat hrg hlt hgr hsz hen => ?_)
 ·obtain ⟨x, rfl, _⟩ := Maps.keyOf_int_inv Tryz.underlying3 hk
  exact ⟨x, rfl⟩
 ·obtain ⟨x', ex, rfl, _⟩ := Maps.keyOf_int_inv Tryz.underlying3 hkey
  cases ex
  have hL : Lf x = true := by rw [← h4]; exact hlk
  refine hMore x w' cnt' hL (h3.2.2.2 x (h5 x hL)) ⟨D, l, _, hrg, h2, h3, fun z => ?_, fun z hz => ?_⟩ hlt hgr hsz hen
  ·dsimp only
   rw [h4, sameKey_int]
  ·rw [Bool.and_eq_true] at hz
   exact h5 z hz.1
/-- At the operation: m[x] = struct{}{}. -/
theorem wpList_putM {w : World} {ops : Array Oper} {rest : List Oper} {o : Oper} {a : Act} {Q : Exit → Act → World → Prop} (hg : o.guard = none) (m x v : Operand) (hop : o.op = Op.mapUpdate 116 m x v)
 (B : Nat) (X : Int → Bool) (z : Int) (hm : a.eval m = .map (some B)) (hx : a.eval x = .int .i64 z) (hv : a.eval v = .agg #[]) (hz : 0 ≤ z ∧ z < 100) (h : SetM w B X)
 (hK : ∀ w', SetM w' B (setIns X z) → w.mapTurned w' B → wpList Tryz.prog ops Q rest (a.put o.dst undef) w') :
 wpList Tryz.prog ops Q (o :: rest) a w := by
 refine wpList_plain hg fun K' hK' => ?_
 obtain ⟨w', hrun, r1, r2⟩ := h.put hz
 unfold Oper.wp
 simp [execOp, hop, hm, hx, hv, hrun, Result.andThen]
 exact hK' _ _ (hK w' r1 r2)
/-- set.put. -/
def setTake (X : Int → Bool) (v : UVal) : Int → Bool := if v.reg = true then setIns X v.n else X
theorem put_calls (v : UVal) (B : Nat) (X : Int → Bool) (w : World) (h : SetM w B X) (hv : v.reg = true → 0 ≤ v.n ∧ v.n < 100) (R : Ending → World → Prop)
 (hR : ∀ w', SetM w' B (setTake X v) → w.grownBy w' (some B) → R (.returned (.tuple #[])) w') :
 Calls Tryz.prog 97 #[.map (some B), .agg #[.bool v.reg, .int .i64 v.n]] w R := by
 have HR := Lib.hid hR
 have H := Lib.hid h
 clear hR h
 have HA := Lib.hid (H.out.below ((Below.refl w.heap.size w).alloc (Nat.le_refl _) (Obj.cells #[.bool v.reg, .int .i64 v.n] 64)))
 have HG := Lib.hid (World.grownBy_alloc w (Obj.cells #[.bool v.reg, .int .i64 v.n] 64) (some B))
 unfold setTake at HR
 cases hr : v.reg
 ·rw [hr] at HR HA HG
  rw [if_neg (by decide)] at HR
  clear hr
  go_enter Tryz.func97, Tryz.ntmps97
  go_wp2
  refine bodyPost_ret (results_none rfl _ _ _) rfl ?_
  exact HR.out _ HA.out HG.out
 ·rw [hr] at HR HA HG
  rw [if_pos rfl] at HR
  have hz := hv hr
  clear hr
  go_enter Tryz.func97, Tryz.ntmps97
  go_wp2_with (at_mapUpdate; refine wpList_putM rfl _ _ _ rfl B X v.n rfl rfl rfl hz HA.out ?_)
  intro w2 hs2 ht2
  have HS := Lib.hid hs2
  have HT := Lib.hid ht2
  clear hs2 ht2
  go_wp2
  refine bodyPost_ret (results_none rfl _ _ _) rfl ?_
  exact HR.out _ HS.out (HG.out.trans HT.out.grown)
end Go.Proofs.YtdanebboiekieaaGreatDoor
namespace Go.Proofs.YtdanebboiekieaaGreatDoor
open Go.RowKit
set_option linter.unusedSimpArgs false
set_option linter.unusedVariables false

def insN (X : Int → Bool) (x : UIns) : Int → Bool := (valsOf x).foldl setTake (setDel X x.dst)
theorem setTakes_at : ∀ (l : List UVal) (X : Int → Bool) (z : Int), (l.foldl setTake X) z = (X z || l.any fun v => isR v z)
 | [], X, z => by simp
 | v :: l, X, z => by
   rw [List.foldl_cons, setTakes_at l, List.any_cons]
   unfold setTake isR
   cases hv : v.reg
   ·simp
   ·simp only [if_true, Bool.true_and, setIns, Bool.or_assoc]
    congr 2
    simp [eq_comm]
theorem insN_at (X : Int → Bool) (x : UIns) (z : Int) : insN X x z = ((X z && !decide (z = x.dst)) || (valsOf x).any fun v => isR v z) := by
 unfold insN
 rw [setTakes_at]
 rfl
theorem insN_live {u : Unt} {f : UFun} {L : Nat → Nat → Int → Bool} (hL : ∀ i k r, L i k r = true ↔ LvI f r i k) {regs : Int} {i m : Nat} {b : UBlk} {x : UIns} (hb : f.blocks[i]? = some b) (hx : b.list[m]? = some x) (hi : InsOk u regs x) : insN (L i (m + 1)) x = L i m := by
 funext z
 rw [Bool.eq_iff_iff, insN_at, hL, Bool.or_eq_true, Bool.and_eq_true, hL]
 constructor
 ·rintro (⟨⟨r, rfl, h1⟩, h2⟩ | h)
  ·refine ⟨r, rfl, (lv_ins hb hx).2 (.inr ⟨fun e => ?_, h1⟩)⟩
   rw [e] at h2
   simp at h2
  ·obtain ⟨v, hv, h⟩ := List.any_eq_true.1 h
   have hok := valsOf_ok hi v hv
   unfold isR at h
   rw [Bool.and_eq_true, decide_eq_true_eq] at h
   have h0 := hok h.1
   refine ⟨z.toNat, by omega, (lv_ins hb hx).2 (.inl ?_)⟩
   rw [← takes_vals hi]
   refine List.any_eq_true.2 ⟨v, hv, ?_⟩
   unfold regIs
   rw [h.1, Bool.true_and, decide_eq_true_eq]
   omega
 ·rintro ⟨r, rfl, h⟩
  rcases (lv_ins hb hx).1 h with h | ⟨h1, h2⟩
  ·right
   rw [← takes_vals hi] at h
   exact h
  ·left
   refine ⟨⟨r, rfl, h2⟩, ?_⟩
   simp only [Bool.not_eq_true', decide_eq_false_iff_not]
   exact fun e => h1 e.symm
theorem end_live {u : Unt} {f : UFun} {L : Nat → Nat → Int → Bool} (hL : ∀ i k r, L i k r = true ↔ LvI f r i k) (hf : FunOk u f) {n : Nat} (hn : f.regs = (n : Int)) {i : Nat} {b : UBlk} (hb : f.blocks[i]? = some b) {X : Int → Bool} (hX : ∀ z, X z = true ↔ ∃ r : Nat, z = (r : Int) ∧ r < n ∧ Bh f r i) : setTake X b.end_.on = L i b.list.length := by
 funext z
 have hon := hf.on b (List.mem_of_getElem? hb)
 have e : setTake X b.end_.on z = (X z || [b.end_.on].any fun v => isR v z) := setTakes_at [b.end_.on] X z
 rw [Bool.eq_iff_iff, e, hL, Bool.or_eq_true, hX]
 simp only [List.any_cons, List.any_nil, Bool.or_false]
 constructor
 ·rintro (⟨r, rfl, h1, h2⟩ | h)
  ·exact ⟨r, rfl, (lv_end hb).2 (.inr h2)⟩
  ·unfold isR at h
   rw [Bool.and_eq_true, decide_eq_true_eq] at h
   have h0 := hon h.1
   refine ⟨z.toNat, by omega, (lv_end hb).2 (.inl ?_)⟩
   unfold regIs
   rw [h.1, Bool.true_and, decide_eq_true_eq]
   omega
 ·rintro ⟨r, rfl, h⟩
  have hlt := lv_lt hf h
  rcases (lv_end hb).1 h with h | h
  ·exact .inr h
  ·exact .inl ⟨r, rfl, by omega, h⟩
section
variable {St : Type} (upd : St → UIns → (Int → Bool) → St)
/-- One step, with the set on the way. -/
def stepU (p : St × (Int → Bool)) (x : UIns) : St × (Int → Bool) := (upd p.1 x p.2, insN p.2 x)
def runB (l : List UIns) (L : Nat → Int → Bool) : Nat → St → St
 | 0, σ => σ
 | m + 1, σ => runB l L m (match l[m]? with | some x => upd σ x (L (m + 1)) | none => σ)
def runF (bs : List UBlk) (L : Nat → Nat → Int → Bool) : Nat → St → St
 | 0, σ => σ
 | b + 1, σ => match bs[b]? with | some blk => runB upd blk.list (L b) blk.list.length (runF bs L b σ) | none => runF bs L b σ
theorem run_take {l : List UIns} {L : Nat → Int → Bool} (hs : ∀ m x, l[m]? = some x → insN (L (m + 1)) x = L m) : ∀ k, k ≤ l.length → ∀ σ, (l.take k).reverse.foldl (stepU upd) (σ, L k) = (runB upd l L k σ, L 0)
 | 0, _, σ => by simp [runB]
 | k + 1, h, σ => by
   have hk : k < l.length := by omega
   rw [List.take_succ_eq_append_getElem hk, List.reverse_append, List.reverse_singleton, List.singleton_append, List.foldl_cons]
   have hx : l[k]? = some l[k] := List.getElem?_eq_getElem hk
   have e : stepU upd (σ, L (k + 1)) l[k] = (upd σ l[k] (L (k + 1)), L k) := by
    unfold stepU
    rw [hs k _ hx]
   rw [e, run_take hs k (by omega)]
   simp only [runB, hx]
theorem run_all {l : List UIns} {L : Nat → Int → Bool} (hs : ∀ m x, l[m]? = some x → insN (L (m + 1)) x = L m) (σ : St) : l.reverse.foldl (stepU upd) (σ, L l.length) = (runB upd l L l.length σ, L 0) := by
 have := run_take upd hs l.length (Nat.le_refl _) σ
 rwa [List.take_length] at this
theorem runF_succ {bs : List UBlk} {L : Nat → Nat → Int → Bool} {b : Nat} {blk : UBlk} (h : bs[b]? = some blk) (σ : St) : runF upd bs L (b + 1) σ = runB upd blk.list (L b) blk.list.length (runF upd bs L b σ) := by
 simp only [runF, h]
end
end Go.Proofs.YtdanebboiekieaaGreatDoor
namespace Go.Proofs.YtdanebboiekieaaGreatDoor
open Go.RowKit
set_option linter.unusedSimpArgs false
set_option linter.unusedVariables false

theorem rowV_set {V : List (List Bool)} {i k : Nat} {S : List Bool} (h : i < V.length) : rowV (V.set i S) k = if k = i then S else rowV V k := by
 unfold rowV
 rw [List.getD_eq_getElem?_getD, List.getD_eq_getElem?_getD, List.getElem?_set]
 by_cases e : i = k
 ·subst e
  rw [if_pos rfl, if_pos h, if_pos rfl]
  rfl
 ·rw [if_neg e, if_neg (fun x => e x.symm)]
/-- How many are not in. -/
def lackS (S : List Bool) : Nat := (S.map fun b => if b = true then 0 else 1).sum
def lackV (V : List (List Bool)) : Nat := (V.map lackS).sum
theorem lackS_le : ∀ {S T : List Bool}, S.length = T.length → (∀ k, k < S.length → bAt S k = true → bAt T k = true) → lackS T ≤ lackS S ∧ (S ≠ T → lackS T < lackS S)
 | [], [], _, _ => ⟨Nat.le_refl _, fun h => absurd rfl h⟩
 | x :: S, y :: T, hl, h => by
   have h0 := h 0 (by simp)
   simp [bAt] at h0
   have ih := lackS_le (S := S) (T := T) (by simpa using hl) (fun k hk hb => by
    have := h (k + 1) (by simp; omega)
    simp [bAt] at this hb ⊢
    exact this hb)
   simp only [lackS, List.map_cons, List.sum_cons] at ih ⊢
   refine ⟨?_, fun hne => ?_⟩
   ·cases x <;> cases y <;> simp_all <;> omega
   ·by_cases e : x = y
    ·subst e
     have := ih.2 (fun e2 => hne (by rw [e2]))
     omega
    ·cases x <;> cases y <;> simp_all <;> omega
theorem lackV_set : ∀ {V : List (List Bool)} {i : Nat} {S : List Bool}, i < V.length → lackS S < lackS (rowV V i) → lackV (V.set i S) < lackV V
 | T :: V, 0, S, _, h => by
   simp [rowV] at h
   simp [lackV]
   omega
 | T :: V, i + 1, S, hi, h => by
   have := lackV_set (V := V) (i := i) (S := S) (by simpa using hi) (by simpa [rowV] using h)
   simp [lackV] at this ⊢
   omega
/-- The sets of one register, by blocks. -/
def colV (V : List (List Bool)) (r : Nat) (i : Nat) : Bool := bAt (rowV V i) r
structure GoodAll (f : UFun) (n : Nat) (V : List (List Bool)) : Prop where
 len : V.length = f.blocks.length
 rows : ∀ i, i < V.length → (rowV V i).length = n
 good : ∀ r, r < n → GoodL (stepB f r) (fun i => Lv f r i 0) (colV V r)
theorem GoodAll.first {f : UFun} {n : Nat} : GoodAll f n (List.replicate f.blocks.length (List.replicate n false)) := by
 have e : ∀ i r, colV (List.replicate f.blocks.length (List.replicate n false)) r i = false := fun i r => by
  unfold colV rowV
  rw [List.getD_eq_getElem?_getD, List.getElem?_replicate]
  split
  ·exact bAt_rep _ _
  ·rfl
 refine ⟨by simp, fun i hi => ?_, fun r _ => GoodL.first fun i => e i r⟩
 unfold rowV
 rw [List.getD_eq_getElem?_getD, List.getElem?_replicate, if_pos (by simpa using hi)]
 simp
theorem GoodAll.step {f : UFun} {n : Nat} {V : List (List Bool)} (h : GoodAll f n V) {b : Nat} (hb : b < f.blocks.length) {S : List Bool} (hl : S.length = n) (hS : ∀ r, r < n → bAt S r = stepB f r (colV V r) b) : GoodAll f n (V.set b S) := by
 have hbV : b < V.length := by rw [h.len]; exact hb
 refine ⟨by rw [List.length_set]; exact h.len, fun i hi => ?_, fun r hr => ?_⟩
 ·rw [List.length_set] at hi
  rw [rowV_set hbV]
  split
  ·exact hl
  ·exact h.rows i hi
 ·refine (h.good r hr).step (sys_all f r) (i := b) ?_ fun j hj => ?_
  ·show bAt (rowV (V.set b S) b) r = _
   rw [rowV_set hbV, if_pos rfl]
   exact hS r hr
  ·show bAt (rowV (V.set b S) j) r = bAt (rowV V j) r
   rw [rowV_set hbV, if_neg hj]
theorem GoodAll.less {f : UFun} {n : Nat} {V : List (List Bool)} (h : GoodAll f n V) {b : Nat} (hb : b < f.blocks.length) {S : List Bool} (hl : S.length = n) (hS : ∀ r, r < n → bAt S r = stepB f r (colV V r) b) (hne : S ≠ rowV V b) : lackV (V.set b S) < lackV V := by
 have hbV : b < V.length := by rw [h.len]; exact hb
 refine lackV_set hbV ((lackS_le (by rw [h.rows b hbV, hl]) (fun k hk hx => ?_)).2 (fun e => hne e.symm))
 rw [h.rows b hbV] at hk
 rw [hS k hk]
 exact (h.good k hk).grow b hx
/-- At the end the sets are what is live. -/
theorem GoodAll.done {f : UFun} {n : Nat} {V : List (List Bool)} (h : GoodAll f n V) (hc : ∀ b, b < f.blocks.length → ∀ r, r < n → stepB f r (colV V r) b = bAt (rowV V b) r) {r : Nat} (hr : r < n) (i : Nat) : bAt (rowV V i) r = true ↔ Lv f r i 0 := by
 refine (h.good r hr).done (sys_all f r) (fun j hj => ?_) i
 rcases Nat.lt_or_ge j f.blocks.length with hl | hl
 ·have := hc j hl r hr
  show bAt (rowV V j) r = true
  rw [← this]
  exact hj
 ·unfold stepB at hj
  rw [List.getElem?_eq_none hl] at hj
  cases hj
/-- All of a block's instructions, from the last to the first. -/
theorem backS_at {u : Unt} {n : Nat} : ∀ (l : List UIns) (S : List Bool), (∀ x ∈ l, InsOk u n x) → S.length = n → (l.reverse.foldl insS S).length = n ∧ ∀ r, r < n → bAt (l.reverse.foldl insS S) r = aheadB l (bAt S r) r
 | [], S, _, hS => ⟨hS, fun r _ => rfl⟩
 | x :: l, S, hx, hS => by
   obtain ⟨h1, h2⟩ := backS_at l S (fun y hy => hx y (by simp [hy])) hS
   rw [List.reverse_cons, List.foldl_append]
   simp only [List.foldl_cons, List.foldl_nil]
   refine ⟨by rw [insS_len]; exact h1, fun r hr => ?_⟩
   have hok := hx x (by simp)
   rw [insS_at (u := u) (regs := n) hok (by rw [h1]) (by omega), h2 r hr]
   simp [aheadB]
theorem stepB_of {f : UFun} {r b : Nat} (V : Nat → Bool) (hb : b < f.blocks.length) : stepB f r V b = aheadB f.blocks[b].list (behB V f.blocks[b] || regIs f.blocks[b].end_.on r) r := by
 unfold stepB
 rw [List.getElem?_eq_getElem hb]
end Go.Proofs.YtdanebboiekieaaGreatDoor
namespace Go.Proofs.YtdanebboiekieaaGreatDoor
open Go.RowKit
set_option linter.unusedSimpArgs false
set_option linter.unusedVariables false

set_option maxHeartbeats 800000 in
theorem CloneS_calls (S : List Bool) (g0 n cp : Nat) (w : World) (h : SetAt g0 S w) (hl : S.length = n) (hcp : n ≤ cp) (hn : n ≤ 5000) (R : Ending → World → Prop)
 (hR : ∀ w' g cap, Below w.heap.size w w' → w.heap.size ≤ g → SetAt g S w' → n ≤ cap → R (.returned (.slice (some ⟨g, 0, none⟩) n cap)) w') :
 Calls Tryz.prog 117 #[.slice (some ⟨g0, 0, none⟩) n cp] w R := by
 subst hl
 obtain ⟨i0, hi, hz0, hz1, hz2⟩ := info_parts info_boolU
 have hnil := fun w => Lib.run_eql_slice_nil (P := Tryz.prog) w 160 4 (some ⟨g0, 0, none⟩) S.length cp 0 0 Tryz.underlying160
 have hs := h.SL (by unfold maxLen; omega) hcp
 have hnews : ∀ j u, (S.flatMap bitCells)[j]? = some u → w.cell? ((⟨g0, 0, none⟩ : Addr).add j) = some u := hs.news (fun _ _ _ _ h => h) (fun _ => rfl) (by decide)
 have hlt : g0 < w.heap.size := h.lt
 have Hn := Lib.hid hnews
 have Hl := Lib.hid hlt
 have HR := Lib.hid hR
 clear hnews hlt h hs hR
 go_enter Tryz.func117, Tryz.ntmps117
 go_wp2_with (at_builtin; refine wpList_append_own _ rfl _ _ 160 rfl w.heap.size 4 i0 _ 1 1 Tryz.underlying160 hi hz0 hz1 hz2 rfl (by decide) (.slice (some ⟨w.heap.size, 0, none⟩) 0 0) 0 [] rfl ?_ ⟨g0, 0, none⟩ S.length cp (S.flatMap bitCells) rfl (flat_length bitCells 1 (fun _ => rfl) S) ?_ ?_ ?_ ?_ ?_ ?_)
 ·exact ⟨rfl, .inr ⟨w.heap.size, 0, #[], rfl, Nat.le_refl _, heap_alloc_new w _, Nat.le_refl _, Nat.zero_le _, rfl, rfl⟩⟩
 ·intro j u hj
  rw [World.cell?_alloc_lt _ _ _ (by rw [addr_block]; exact Hl.out)]
  exact Hn.out j u hj
 ·exact one_bit S
 ·unfold maxLen; omega
 ·omega
 ·simp
 ·intro v' w1 hown hgrow hnn
  have hne : v' ≠ .slice none 0 0 := hnn
  have hown2 : w1.ownsRow w.heap.size 4 1 v' S.length (S.flatMap bitCells) := by simpa using hown
  obtain ⟨g, cap, hv, hge, hcap⟩ : ∃ g cap, v' = .slice (some ⟨g, 0, none⟩) S.length cap ∧ w.heap.size ≤ g ∧ S.length ≤ cap := by
   rcases hown2.2 with ⟨e, _⟩ | ⟨g, cap, cur, hv, hb, _, hnc, _⟩
   ·exact absurd e hne
   ·exact ⟨g, cap, hv, hb, hnc⟩
  subst hv
  have HS := Lib.hid (SetAt.of_own hown2 rfl)
  have Hfin := Lib.hid (HR.out w1 g cap ((Below.refl _ _).alloc (Nat.le_refl _) _ |>.grown hgrow (by simp) (fun k hk => by simp [Value.ownBlock] at hk; omega)) hge HS.out hcap)
  clear hown hown2 hgrow hnn hne HS
  go_wp2
  exact Hfin.out
end Go.Proofs.YtdanebboiekieaaGreatDoor
