/- colour: the registers that are given. colour: the order of two registers by their weights. A stable sort of ints: two ranges change places. A stable sort of ints: rotation. A stable sort of ints: insertion; the plain law. -/
import Derived.Test.YtdanebboiekieaaGreatDoorQ32
import Derived.Test.YtdanebboiekieaaGreatDoorQ33
import Derived.Test.YtdanebboiekieaaGreatDoorQ01
import Derived.Test.YtdanebboiekieaaGreatDoorRows
import Derived.IntWalk
import Derived.Outline
import Derived.Deep.LoopGhost
import Derived.Deep.RegionLaw
import Derived.Deep.CutBlock
import Derived.Deep.DeepCutAuto
import Derived.BigRegion
namespace Go.Proofs.YtdanebboiekieaaGreatDoor
open Go.RowKit
set_option linter.unusedSimpArgs false
set_option linter.unusedVariables false

theorem given_two {many : Int} (h : 2 ≤ many ∧ many ≤ 14) : givenL many = ints (halfC many).toNat ++ (ints (many - halfC many).toNat).map (fun k => 6 + k) := by
 obtain ⟨m, rfl⟩ : ∃ m : Nat, many = (m : Int) := ⟨many.toNat, by omega⟩
 have : m = 2 ∨ m = 3 ∨ m = 4 ∨ m = 5 ∨ m = 6 ∨ m = 7 ∨ m = 8 ∨ m = 9 ∨ m = 10 ∨ m = 11 ∨ m = 12 ∨ m = 13 ∨ m = 14 := by omega
 rcases this with rfl | rfl | rfl | rfl | rfl | rfl | rfl | rfl | rfl | rfl | rfl | rfl | rfl <;> decide +kernel
theorem halfC_is {many : Int} (h : 2 ≤ many ∧ many ≤ 14) : min (6 : Int) ((many + 1) / 2) = halfC many ∧ 1 ≤ halfC many ∧ halfC many ≤ 6 ∧ halfC many ≤ many := by
 unfold halfC
 split <;> omega
def gTo (k : Nat) : List Int := (ints k).map fun k => 6 + k
theorem gTo_step (k : Nat) : gTo (k + 1) = gTo k ++ [6 + (k : Int)] := by
 unfold gTo
 rw [ints_succ, List.map_append]
 rfl
theorem gTo_len (k : Nat) : (gTo k).length = k := by
 unfold gTo
 rw [List.length_map, ints_len]
set_option maxHeartbeats 1000000 in
theorem Given_calls (many : Int) (h : 2 ≤ many ∧ many ≤ 14) (w : World) (R : Ending → World → Prop)
 (hR : ∀ w' v', Below w.heap.size w w' → w'.ownsRow w.heap.size 3 1 v' (givenL many).length ((givenL many).flatMap intCells) → R (.returned v') w') :
 Calls Tryz.prog 42 #[.int .i64 many] w R := by
 obtain ⟨hc0, hc1, hc2, hc3⟩ := halfC_is h
 rw [given_two h] at hR
 change ∀ w' v', Below w.heap.size w w' → w'.ownsRow w.heap.size 3 1 v' (ints (halfC many).toNat ++ gTo (many - halfC many).toNat).length ((ints (halfC many).toNat ++ gTo (many - halfC many).toNat).flatMap intCells) → R (.returned v') w' at hR
 obtain ⟨c, hc⟩ : ∃ c : Nat, halfC many = (c : Int) := ⟨(halfC many).toNat, by omega⟩
 obtain ⟨d, hd⟩ : ∃ d : Nat, many = (c : Int) + (d : Int) := ⟨(many - c).toNat, by omega⟩
 rw [hc] at hR hc0 hc1 hc2 hc3
 rw [show (many - (c : Int)).toNat = d by omega, Int.toNat_natCast] at hR
 have HR := Lib.hid hR
 have Hc0 := Lib.hid hc0
 obtain ⟨i0, hi0, hz0, hz1, hz2⟩ := info_parts info_intW
 subst hd
 clear hR hc0 hc1 hc
 go_enter Tryz.func42, Tryz.ntmps42
 go_wp2
 have e0 : min (6 : Int) (((c : Int) + (d : Int) + 1) / 2) = (c : Int) := Hc0.out
 rw [e0]
 clear e0
 go_loopg [4, 12] c (fun g v i wr => ∃ k : Nat, k ≤ c ∧ g = c - k ∧ i = .int .i64 k ∧ Below w.heap.size w wr ∧ wr.ownsRow w.heap.size 3 1 v (ints k).length ((ints k).flatMap intCells))
 case atStart => exact ⟨0, by omega, rfl, rfl, Below.refl _ _, World.ownsRow_nil _ _ _ _⟩
 case round =>
  obtain ⟨k, hk, rfl, rfl, hbel, hown⟩ := hrel
  by_cases hlt : k < c
  ·have hst := ints_succ k
   have hll := ints_len k
   generalize hL : ints k = L at *
   generalize hL2 : ints (k + 1) = L2 at *
   have HL2 := Lib.hid hL2
   have Hst := Lib.hid hst
   have Hll := Lib.hid hll
   clear hL hL2 hst hll
   have Hb := Lib.hid hbel
   have Ho := Lib.hid hown
   have hz := hbel.size
   obtain ⟨A, c4, rfl⟩ := own_slice hown
   clear hbel hown
   have i1 : (k : Int) < (c : Int) := by omega
   have i2 : (0 : Int) ≤ (k : Int) := by omega
   go_wp2_with (at_builtin; refine wpList_append_own _ rfl _ _ 26 rfl w.heap.size 3 i0 _ 1 8 Tryz.underlying26 hi0 hz0 hz1 hz2 rfl (by decide) (.slice A L.length c4) L.length (L.flatMap intCells) rfl (Ho.out.alloc _) ⟨wr.heap.size, 0, none⟩ 1 1 [.int .i64 (k : Int)] rfl rfl ?_ ?_ ?_ ?_ ?_ ?_)
   any_goals have hll := Hll.out
   any_goals first | exact World.news_of_block (cs := #[.int .i64 (k : Int)]) (t := 3) (fr := (0, 0)) (heap_alloc_new wr _) | (simp [Value.oneCell']; done) | (unfold maxLen; omega) | omega | (simp; done) | (simp; omega)
   ·intro v' w2 hown2 hgrow _
    have hb2 : Below w.heap.size w w2 := (Hb.out.alloc (by omega) (Obj.cells #[.int .i64 (k : Int)] 3)).grown hgrow (by simp; omega) (fun k hk => (Ho.out.lt k hk).1)
    have H1 := Lib.hid (And.intro hown2 hb2)
    clear hown2 hb2 hgrow hll
    go_wp2
    go_roundg (c - (k + 1))
    case measure => omega
    case rel => exact ⟨k + 1, by omega, rfl, by go_num, H1.out.2, by rw [HL2.out, Hst.out, List.length_append, List.flatMap_append]; exact H1.out.1⟩
  ·obtain rfl : k = c := by omega
   have Hbw := Lib.hid hbel
   have How := Lib.hid hown
   obtain ⟨A0, c40, rfl⟩ := own_slice hown
   clear hbel hown
   obtain ⟨w1, hw1⟩ : ∃ w1, w1 = wr := ⟨_, rfl⟩
   go_wp2
   rw [show (k : Int) + (d : Int) - (k : Int) = (d : Int) by omega]
   go_loopg [4, 23] d (fun g v i wr => ∃ j : Nat, j ≤ d ∧ g = d - j ∧ i = .int .i64 j ∧ Below w.heap.size w wr ∧ wr.ownsRow w.heap.size 3 1 v (ints k ++ gTo j).length ((ints k ++ gTo j).flatMap intCells))
   case atStart => exact ⟨0, by omega, rfl, rfl, Hbw.out, by simpa [gTo, ints] using How.out⟩
   case round =>
    clear Hbw How
    obtain ⟨j, hj, rfl, rfl, hbel, hown⟩ := hrel
    by_cases hlt : j < d
    ·have hst : ints k ++ gTo (j + 1) = (ints k ++ gTo j) ++ [6 + (j : Int)] := by rw [gTo_step, List.append_assoc]
     have hll : (ints k ++ gTo j).length = k + j := by rw [List.length_append, ints_len, gTo_len]
     generalize hL : ints k ++ gTo j = L at *
     generalize hL2 : ints k ++ gTo (j + 1) = L2 at *
     have HL2 := Lib.hid hL2
     have Hst := Lib.hid hst
     have Hll := Lib.hid hll
     clear hL hL2 hst hll
     have Hb := Lib.hid hbel
     have Ho := Lib.hid hown
     have hz := hbel.size
     obtain ⟨A, c4, rfl⟩ := own_slice hown
     clear hbel hown
     have i1 : (j : Int) < (d : Int) := by omega
     have i2 : (0 : Int) ≤ (j : Int) := by omega
     go_wp2_with (at_builtin; refine wpList_append_own _ rfl _ _ 26 rfl w.heap.size 3 i0 _ 1 8 Tryz.underlying26 hi0 hz0 hz1 hz2 rfl (by decide) (.slice A L.length c4) L.length (L.flatMap intCells) rfl (Ho.out.alloc _) ⟨wr.heap.size, 0, none⟩ 1 1 [.int .i64 (6 + (j : Int))] rfl rfl ?_ ?_ ?_ ?_ ?_ ?_)
     any_goals have hll := Hll.out
     any_goals first | exact World.news_of_block (cs := #[.int .i64 (6 + (j : Int))]) (t := 3) (fr := (0, 0)) (heap_alloc_new wr _) | (simp [Value.oneCell']; done) | (unfold maxLen; omega) | omega | (simp; done) | (simp; omega)
     ·intro v' w2 hown2 hgrow _
      have hb2 : Below w.heap.size w w2 := (Hb.out.alloc (by omega) (Obj.cells #[.int .i64 (6 + (j : Int))] 3)).grown hgrow (by simp; omega) (fun k hk => (Ho.out.lt k hk).1)
      have H1 := Lib.hid (And.intro hown2 hb2)
      clear hown2 hb2 hgrow hll
      go_wp2
      go_roundg (d - (j + 1))
      case measure => omega
      case rel => exact ⟨j + 1, by omega, rfl, by go_num, H1.out.2, by rw [HL2.out, Hst.out, List.length_append, List.flatMap_append]; exact H1.out.1⟩
    ·obtain rfl : j = d := by omega
     have H1 := Lib.hid (HR.out _ _ hbel hown)
     clear hbel hown
     go_wp2
     exact H1.out
end Go.Proofs.YtdanebboiekieaaGreatDoor
namespace Go.Proofs.YtdanebboiekieaaGreatDoor
open Go.RowKit
set_option linter.unusedSimpArgs false
set_option linter.unusedVariables false

def cmpI (a b : Int) : Int := if a < b then -1 else if b < a then 1 else 0
set_option maxHeartbeats 1000000 in
theorem isNaN_calls (a : Int) (w : World) (R : Ending → World → Prop) (hR : R (.returned (.bool false)) w) : Calls Tryz.prog 80 #[.int .i64 a] w R := by
 have HR := Lib.hid hR
 clear hR
 go_enter Tryz.func80, Tryz.ntmps80
 go_wp2
 exact HR.out
set_option maxHeartbeats 1000000 in
theorem Compare_calls (a b : Int) (w : World) (R : Ending → World → Prop) (hR : R (.returned (.int .i64 (cmpI a b))) w) : Calls Tryz.prog 45 #[.int .i64 a, .int .i64 b] w R := by
 have hx : a < b ∨ (¬ a < b ∧ b < a) ∨ (¬ a < b ∧ ¬ b < a) := by omega
 rcases hx with h | ⟨h, h2⟩ | ⟨h, h2⟩
 ·have e : cmpI a b = -1 := if_pos h
  rw [e] at hR
  have HR := Lib.hid hR
  clear hR
  go_enter Tryz.func45, Tryz.ntmps45
  go_wp2_with fail
  refine isNaN_calls _ _ _ ?_
  go_wp2_with fail
  refine isNaN_calls _ _ _ ?_
  go_wp2
  exact HR.out
 ·have e : cmpI a b = 1 := by unfold cmpI; rw [if_neg h, if_pos h2]
  rw [e] at hR
  have HR := Lib.hid hR
  clear hR
  go_enter Tryz.func45, Tryz.ntmps45
  go_wp2_with fail
  refine isNaN_calls _ _ _ ?_
  go_wp2_with fail
  refine isNaN_calls _ _ _ ?_
  go_wp2
  exact HR.out
 ·have e : cmpI a b = 0 := by unfold cmpI; rw [if_neg h, if_neg h2]
  rw [e] at hR
  have HR := Lib.hid hR
  clear hR
  go_enter Tryz.func45, Tryz.ntmps45
  go_wp2_with fail
  refine isNaN_calls _ _ _ ?_
  go_wp2_with fail
  refine isNaN_calls _ _ _ ?_
  go_wp2
  exact HR.out
theorem Compare_same (a b : Int) (w : World) : Calls Tryz.prog 45 #[.int .i64 a, .int .i64 b] w (fun e w' => e = .returned (.int .i64 (cmpI a b)) ∧ w' = w) := Compare_calls a b w _ ⟨rfl, rfl⟩
/-- The closure that orders registers. -/
def cmpW (S : List Int) (a b : Int) : Int := cmpI (iAt S b.toNat) (iAt S a.toNat)
end Go.Proofs.YtdanebboiekieaaGreatDoor
namespace Go.Proofs.YtdanebboiekieaaGreatDoor
open Go.RowKit
set_option linter.unusedSimpArgs false
set_option linter.unusedVariables false

def swp (S : List Int) (p q : Nat) : List Int := (S.set p (iAt S q)).set q (iAt S p)
theorem swp_len (S : List Int) (p q : Nat) : (swp S p q).length = S.length := by simp [swp]
theorem iAt_swp {S : List Int} {p q k : Nat} (hp : p < S.length) (hq : q < S.length) : iAt (swp S p q) k = if k = q then iAt S p else if k = p then iAt S q else iAt S k := by
 unfold swp
 rw [iAt_set (by simpa using hq)]
 split
 ·rfl
 ·rw [iAt_set hp]
theorem swp_comm {S : List Int} {p q : Nat} (h : p ≠ q) : swp S p q = (S.set q (iAt S p)).set p (iAt S q) := by
 unfold swp
 exact List.set_comm _ _ h
/-- Ranges that have changed places, up to i. -/
def swpTo (S : List Int) (a b : Nat) : Nat → List Int
 | 0 => S
 | i + 1 => swp (swpTo S a b i) (a + i) (b + i)
theorem swpTo_len (S : List Int) (a b i : Nat) : (swpTo S a b i).length = S.length := by
 induction i with
 | zero => rfl
 | succ i ih => rw [swpTo, swp_len, ih]
theorem IntI.refl {g : Nat} {S : List Int} {w : World} (h : IntAt g S w) : IntI g S w w := ⟨h, grown_self _ _, CKeep.refl _ _⟩
theorem IntI.set {g : Nat} {S : List Int} {w0 w : World} (h : IntI g S w0 w) (k : Nat) (x : Int) : IntI g (S.set k x) w0 (w.setCell ⟨g, k, none⟩ (.int .i64 x)) := ⟨h.1.set k x, h.2.1.trans (grown_setCell _ _ _), h.2.2.trans (CKeep.setCell _ _)⟩
set_option maxHeartbeats 4000000 in
theorem swapRange_calls (gs n c : Nat) (S : List Int) (hS : S.length = n) (a b m : Nat) (hab : a + m ≤ b) (hb : b + m ≤ n) (hn : n ≤ 1000) (cf : Value) (w : World) (hI : IntAt gs S w) (R : Ending → World → Prop)
 (hR : ∀ w', IntI gs (swpTo S a b m) w w' → R (.returned (.tuple #[])) w') :
 Calls Tryz.prog 150 #[.slice (some ⟨gs, 0, none⟩) n c, .int .i64 (a : Int), .int .i64 (b : Int), .int .i64 (m : Int), cf] w R := by
 have HR := Lib.hid hR
 have HI := Lib.hid hI
 clear hR hI
 go_enter Tryz.func150, Tryz.ntmps150
 go_wp2
 go_loopg [10] m (fun g i wr => ∃ k : Nat, k ≤ m ∧ g = m - k ∧ i = .int .i64 k ∧ Hid (IntI gs (swpTo S a b k) w wr))
 case atStart => exact ⟨0, by omega, rfl, rfl, Lib.hid (IntI.refl HI.out)⟩
 case round =>
  obtain ⟨k, hk, rfl, rfl, hi⟩ := hrel
  by_cases hlt : k < m
  ·have hl := swpTo_len S a b k
   obtain ⟨T, hT⟩ : ∃ T, T = swpTo S a b k := ⟨_, rfl⟩
   rw [← hT] at hl hi
   have hnx : swpTo S a b (k + 1) = swp T (a + k) (b + k) := by rw [swpTo, hT]
   have Hnx := Lib.hid hnx
   have c0 := hi.out.1.cell (k := a + k) (by omega)
   have c1 := hi.out.1.cell (k := b + k) (by omega)
   have f0 := hi.out.1.frozen (a + k)
   have f1 := hi.out.1.frozen (b + k)
   have lg := hi.out.1.lt
   obtain ⟨p, hp⟩ : ∃ p : Nat, p = a + k := ⟨_, rfl⟩
   obtain ⟨q, hq⟩ : ∃ q : Nat, q = b + k := ⟨_, rfl⟩
   rw [← hp] at c0 f0
   rw [← hq] at c1 f1
   have e0 : (a : Int) + (k : Int) = (p : Int) := by omega
   have e1 : (b : Int) + (k : Int) = (q : Int) := by omega
   have k1 : (0 : Int) ≤ (p : Int) := by omega
   have k2 : (p : Int) < (n : Int) := by omega
   have k3 : (0 : Int) ≤ (q : Int) := by omega
   have k4 : (q : Int) < (n : Int) := by omega
   have k5 : (k : Int) < (m : Int) := by omega
   have Hpq : Hid (p ≠ q) := Lib.hid (by omega)
   have Hp := Lib.hid hp
   have Hq := Lib.hid hq
   rw [← hp, ← hq] at Hnx
   have I0 := (hi.out.1.set p (iAt T q))
   have I1 := (hi.out.1.set q (iAt T p))
   have d0 := I0.cell (k := q) (by rw [List.length_set]; omega)
   have d1 := I1.cell (k := p) (by rw [List.length_set]; omega)
   rw [iAt_set (by omega), if_neg (by omega)] at d0 d1
   have g0 := I0.frozen q
   have g1 := I1.frozen p
   generalize hx : iAt T p = x at *
   generalize hy : iAt T q = y at *
   have Hx := Lib.hid hx
   have Hy := Lib.hid hy
   clear hT hnx hl hp hq hx hy hS hab hb I0 I1
   go_upto_region 3 with fail
   go_region
   have hf : IntI gs (swpTo S a b (k + 1)) w ((wr.setCell ⟨gs, p, none⟩ (.int .i64 y)).setCell ⟨gs, q, none⟩ (.int .i64 x)).drew := by
    rw [Hnx.out]
    unfold swp
    rw [Hx.out, Hy.out]
    exact ((hi.out.set p y).set q x).below (Below.refl _ _).drew
   have Hf := Lib.hid hf
   clear hf c0 c1 f0 f1 d0 d1 g0 g1
   go_wp2
   go_roundg (m - (k + 1))
   case measure => omega
   case rel => exact ⟨k + 1, by omega, rfl, by go_num, Hf⟩
  ·obtain rfl : k = m := by omega
   have hf := Lib.hid (HR.out _ hi.out)
   go_wp2
   first | exact hf.out | (go_end0; exact hf.out)
end Go.Proofs.YtdanebboiekieaaGreatDoor
namespace Go.Proofs.YtdanebboiekieaaGreatDoor
open Go.RowKit
set_option linter.unusedSimpArgs false
set_option linter.unusedVariables false

theorem iAt_swpTo {S : List Int} {a b : Nat} : ∀ {i : Nat}, a + i ≤ b → b + i ≤ S.length → ∀ k, iAt (swpTo S a b i) k = if a ≤ k ∧ k < a + i then iAt S (b + (k - a)) else if b ≤ k ∧ k < b + i then iAt S (a + (k - b)) else iAt S k
 | 0, _, _, k => by
   rw [if_neg (by omega), if_neg (by omega)]
   rfl
 | i + 1, h1, h2, k => by
   have ih := fun k => iAt_swpTo (S := S) (a := a) (b := b) (i := i) (by omega) (by omega) k
   rw [swpTo, iAt_swp (by rw [swpTo_len]; omega) (by rw [swpTo_len]; omega)]
   by_cases e1 : k = b + i
   ·subst e1
    rw [if_pos rfl, ih, if_neg (by omega), if_neg (by omega), if_neg (by omega), if_pos (by omega)]
    congr 1
    omega
   ·rw [if_neg e1]
    by_cases e2 : k = a + i
    ·subst e2
     rw [if_pos rfl, ih, if_neg (by omega), if_neg (by omega), if_pos (by omega)]
     congr 1
     omega
    ·rw [if_neg e2, ih]
     by_cases e3 : a ≤ k ∧ k < a + i
     ·rw [if_pos e3, if_pos (by omega)]
     ·rw [if_neg e3, if_neg (show ¬ (a ≤ k ∧ k < a + (i + 1)) by omega)]
      by_cases e4 : b ≤ k ∧ k < b + i
      ·rw [if_pos e4, if_pos (by omega)]
      ·rw [if_neg e4, if_neg (by omega)]
theorem list_iAt {l m : List Int} (h : l.length = m.length) (hk : ∀ k, k < l.length → iAt l k = iAt m k) : l = m := by
 apply List.ext_getElem h
 intro k h1 h2
 have := hk k h1
 unfold iAt at this
 rwa [List.getD_eq_getElem?_getD, List.getD_eq_getElem?_getD, List.getElem?_eq_getElem h1, List.getElem?_eq_getElem h2] at this
theorem iAt_left {l m : List Int} {k : Nat} (h : k < l.length) : iAt (l ++ m) k = iAt l k := by
 unfold iAt
 rw [List.getD_eq_getElem?_getD, List.getD_eq_getElem?_getD, List.getElem?_append_left h]
theorem iAt_right {l m : List Int} {k : Nat} (h : l.length ≤ k) : iAt (l ++ m) k = iAt m (k - l.length) := by
 unfold iAt
 rw [List.getD_eq_getElem?_getD, List.getD_eq_getElem?_getD, List.getElem?_append_right h]
theorem iAt_five {A U M V B : List Int} {k : Nat} : iAt (A ++ (U ++ (M ++ (V ++ B)))) k =
 if k < A.length then iAt A k else if k < A.length + U.length then iAt U (k - A.length) else if k < A.length + U.length + M.length then iAt M (k - A.length - U.length) else
  if k < A.length + U.length + M.length + V.length then iAt V (k - A.length - U.length - M.length) else iAt B (k - A.length - U.length - M.length - V.length) := by
 by_cases h1 : k < A.length
 ·rw [if_pos h1, iAt_left h1]
 ·rw [if_neg h1, iAt_right (by omega)]
  by_cases h2 : k < A.length + U.length
  ·rw [if_pos h2, iAt_left (by omega)]
  ·rw [if_neg h2, iAt_right (by omega)]
   by_cases h3 : k < A.length + U.length + M.length
   ·rw [if_pos h3, iAt_left (by omega)]
   ·rw [if_neg h3, iAt_right (by omega)]
    by_cases h4 : k < A.length + U.length + M.length + V.length
    ·rw [if_pos h4, iAt_left (by omega)]
    ·rw [if_neg h4, iAt_right (by omega)]
/-- Two ranges of one length change places. -/
theorem swpTo_is {A U M V B : List Int} (h : U.length = V.length) : swpTo (A ++ (U ++ (M ++ (V ++ B)))) A.length (A.length + U.length + M.length) U.length = A ++ (V ++ (M ++ (U ++ B))) := by
 refine list_iAt (by rw [swpTo_len]; simp; omega) (fun k hk => ?_)
 rw [iAt_swpTo (by omega) (by simp; omega)]
 by_cases h1 : A.length ≤ k ∧ k < A.length + U.length
 ·rw [if_pos h1, iAt_five, iAt_five, if_neg (by omega), if_neg (by omega), if_neg (by omega), if_pos (by omega), if_neg (by omega), if_pos (by omega)]
  congr 1
  omega
 ·rw [if_neg h1]
  by_cases h2 : A.length + U.length + M.length ≤ k ∧ k < A.length + U.length + M.length + U.length
  ·rw [if_pos h2, iAt_five, iAt_five, if_neg (by omega), if_pos (by omega), if_neg (by omega), if_neg (by omega), if_neg (by omega), if_pos (by omega)]
   congr 1
   omega
  ·rw [if_neg h2, iAt_five, iAt_five]
   by_cases h3 : k < A.length
   ·rw [if_pos h3, if_pos h3]
   ·by_cases h4 : k < A.length + U.length + M.length
    ·rw [if_neg h3, if_neg (by omega), if_pos h4, if_neg h3, if_neg (by omega), if_pos (by omega)]
     congr 1
     omega
    ·rw [if_neg h3, if_neg (by omega), if_neg h4, if_neg (by omega), if_neg h3, if_neg (by omega), if_neg (by omega), if_neg (by omega)]
     congr 1
     omega
theorem swpTo_at {A U M V B S : List Int} {a b m : Nat} (hS : S = A ++ (U ++ (M ++ (V ++ B)))) (hu : U.length = m) (hv : V.length = m) (ha : A.length = a) (hb : A.length + U.length + M.length = b) : swpTo S a b m = A ++ (V ++ (M ++ (U ++ B))) := by
 subst hS hu ha hb
 exact swpTo_is hv.symm
/-- A rotation on its way. -/
def Rot (G : List Int) (m i j : Nat) (S : List Int) : Prop := ∃ A X Y B : List Int, S = A ++ (X ++ (Y ++ B)) ∧ A.length + X.length = m ∧ X.length = i ∧ Y.length = j ∧ A ++ (Y ++ (X ++ B)) = G
theorem rot_gt {G S : List Int} {m i j : Nat} (h : Rot G m i j S) (hij : j < i) (hj : 0 < j) : Rot G m (i - j) j (swpTo S (m - i) m j) := by
 obtain ⟨A, X, Y, B, rfl, h1, h2, h3, h4⟩ := h
 have hX : X = X.take j ++ X.drop j := (List.take_append_drop j X).symm
 have l1 : (X.take j).length = j := by rw [List.length_take]; omega
 have l2 : (X.drop j).length = i - j := by rw [List.length_drop]; omega
 refine ⟨A ++ Y, X.drop j, X.take j, B, ?_, by rw [List.length_append]; omega, l2, l1, ?_⟩
 ·rw [swpTo_at (A := A) (U := X.take j) (M := X.drop j) (V := Y) (B := B) (by rw [← List.append_assoc (X.take j), ← hX]) l1 h3 (by omega) (by omega)]
  simp
 ·rw [← h4, ← List.append_assoc (X.take j), List.take_append_drop, List.append_assoc]
theorem rot_lt {G S : List Int} {m i j : Nat} (h : Rot G m i j S) (hij : i < j) (hi : 0 < i) : Rot G m i (j - i) (swpTo S (m - i) (m + j - i) i) := by
 obtain ⟨A, X, Y, B, rfl, h1, h2, h3, h4⟩ := h
 have hY : Y = Y.take (j - i) ++ Y.drop (j - i) := (List.take_append_drop _ Y).symm
 have l1 : (Y.take (j - i)).length = j - i := by rw [List.length_take]; omega
 have l2 : (Y.drop (j - i)).length = i := by rw [List.length_drop]; omega
 refine ⟨A, Y.drop (j - i), Y.take (j - i), X ++ B, ?_, by omega, l2, l1, ?_⟩
 ·rw [swpTo_at (A := A) (U := X) (M := Y.take (j - i)) (V := Y.drop (j - i)) (B := B) (by rw [← List.append_assoc (Y.take (j - i)), ← hY]) h2 l2 (by omega) (by omega)]
 ·rw [← h4, ← List.append_assoc (Y.take (j - i)), List.take_append_drop]
theorem rot_eq {G S : List Int} {m i : Nat} (h : Rot G m i i S) : swpTo S (m - i) m i = G := by
 obtain ⟨A, X, Y, B, rfl, h1, h2, h3, h4⟩ := h
 rw [swpTo_at (A := A) (U := X) (M := []) (V := Y) (B := B) (by simp) h2 h3 (by omega) (by simp; omega), ← h4]
 simp
theorem rot_len {G S : List Int} {m i j : Nat} (h : Rot G m i j S) : S.length = G.length ∧ i ≤ m ∧ m + j ≤ S.length := by
 obtain ⟨A, X, Y, B, rfl, h1, h2, h3, rfl⟩ := h
 simp
 omega
theorem IntI.trans {g : Nat} {S T : List Int} {a b c : World} (h : IntI g S a b) (k : IntI g T b c) : IntI g T a c := ⟨k.1, h.2.1.trans k.2.1, h.2.2.trans k.2.2⟩
set_option maxHeartbeats 4000000 in
theorem rotate_calls (gs n c : Nat) (S G : List Int) (hS : S.length = n) (a m b : Nat) (ham : a < m) (hmb : m < b) (hn : n ≤ 1000) (hR0 : Rot G m (m - a) (b - m) S) (cf : Value) (w : World) (hI : IntAt gs S w) (R : Ending → World → Prop)
 (hR : ∀ w', IntI gs G w w' → R (.returned (.tuple #[])) w') :
 Calls Tryz.prog 132 #[.slice (some ⟨gs, 0, none⟩) n c, .int .i64 (a : Int), .int .i64 (m : Int), .int .i64 (b : Int), cf] w R := by
 have hG := (rot_len hR0).1
 have hbn : b ≤ n := by have := (rot_len hR0).2.2; omega
 rw [hS] at hG
 have HR := Lib.hid hR
 have HI := Lib.hid hI
 obtain ⟨i0, hi0⟩ : ∃ i0, i0 = m - a := ⟨_, rfl⟩
 obtain ⟨j0, hj0⟩ : ∃ j0, j0 = b - m := ⟨_, rfl⟩
 rw [← hi0, ← hj0] at hR0
 have e0 : (m : Int) - (a : Int) = (i0 : Int) := by omega
 have e1 : (b : Int) - (m : Int) = (j0 : Int) := by omega
 have H0 := Lib.hid hR0
 have p0 : 0 < i0 := by omega
 have p1 : 0 < j0 := by omega
 have p2 : i0 ≤ 1000 := by omega
 have p3 : j0 ≤ 1000 := by omega
 have Hb := Lib.hid hbn
 have HG := Lib.hid hG
 clear hR hI hi0 hj0 hR0 hS hbn hG ham hmb
 go_enter Tryz.func132, Tryz.ntmps132
 go_wp2
 clear e0 e1
 go_loopg [10, 11] (i0 + j0) (fun g vi vj wr => ∃ (i j : Nat) (T : List Int), 0 < i ∧ 0 < j ∧ i + j ≤ g ∧ vi = .int .i64 i ∧ vj = .int .i64 j ∧ Hid (Rot G m i j T) ∧ Hid (IntI gs T w wr))
 case atStart => exact ⟨i0, j0, S, p0, p1, Nat.le_refl _, rfl, rfl, H0, Lib.hid (IntI.refl HI.out)⟩
 case round =>
  clear H0 p0 p1 p2 p3 HI
  obtain ⟨i, j, T, hi, hj, hg, rfl, rfl, hT, hI⟩ := hrel
  have hl := rot_len hT.out
  rw [← HG.out] at hl
  have hx : i = j ∨ (i ≠ j ∧ j < i) ∨ (i ≠ j ∧ i < j) := by omega
  have Hl := Lib.hid hl
  have b0 : i ≤ 1000 := by omega
  have b1 : m + j ≤ 1000 := by omega
  clear hl
  rcases hx with hx | ⟨hx, hlt⟩ | ⟨hx, hlt⟩
  ·subst hx
   obtain ⟨q, hq⟩ : ∃ q : Nat, q = m - i := ⟨_, rfl⟩
   have hq2 : (m : Int) - (i : Int) = (q : Int) := by have := Hl.out; omega
   have b2 : q ≤ 1000 := by omega
   have Hq := Lib.hid hq
   clear hq
   go_wp2_with fail
   refine swapRange_calls gs n c T (by have := Hl.out; omega) q m i (by have := Hl.out; have := Hq.out; omega) (by have := Hl.out; omega) hn cf _ hI.out.1 _ (fun w2 h2 => ?_)
   rw [Hq.out, rot_eq hT.out] at h2
   have hf := Lib.hid (HR.out _ (hI.out.trans h2))
   clear h2
   go_wp2
   first | exact hf.out | (go_end0; exact hf.out)
  ·have e2 : ¬ (i : Int) = (j : Int) := by omega
   have e3 : (j : Int) < (i : Int) := by omega
   obtain ⟨q, hq⟩ : ∃ q : Nat, q = m - i := ⟨_, rfl⟩
   have hq2 : (m : Int) - (i : Int) = (q : Int) := by have := Hl.out; omega
   have e4 : (i : Int) - (j : Int) = ((i - j : Nat) : Int) := by omega
   have b2 : q ≤ 1000 := by omega
   have Hq := Lib.hid hq
   clear hq
   go_wp2_with fail
   refine swapRange_calls gs n c T (by have := Hl.out; omega) q m j (by have := Hl.out; have := Hq.out; omega) (by have := Hl.out; omega) hn cf _ hI.out.1 _ (fun w2 h2 => ?_)
   rw [Hq.out] at h2
   have HT2 := Lib.hid (rot_gt hT.out hlt hj)
   have HI2 := Lib.hid (hI.out.trans h2)
   clear h2
   go_wp2
   go_roundg (i - j + j)
   case measure => omega
   case rel => exact ⟨i - j, j, _, by omega, hj, Nat.le_refl _, by go_num, rfl, HT2, HI2⟩
  ·have e2 : ¬ (i : Int) = (j : Int) := by omega
   have e3 : ¬ (j : Int) < (i : Int) := by omega
   obtain ⟨q, hq⟩ : ∃ q : Nat, q = m - i := ⟨_, rfl⟩
   obtain ⟨t, ht⟩ : ∃ t : Nat, t = m + j - i := ⟨_, rfl⟩
   have hq2 : (m : Int) - (i : Int) = (q : Int) := by have := Hl.out; omega
   have hq3 : (m : Int) + (j : Int) - (i : Int) = (t : Int) := by have := Hl.out; omega
   have e4 : (j : Int) - (i : Int) = ((j - i : Nat) : Int) := by omega
   have b2 : q ≤ 1000 := by omega
   have Hq := Lib.hid hq
   have b3 : t ≤ 1000 := by omega
   have Ht := Lib.hid ht
   clear hq ht
   go_wp2_with fail
   refine swapRange_calls gs n c T (by have := Hl.out; omega) q t i (by have := Hl.out; have := Hq.out; have := Ht.out; omega) (by have := Hl.out; have := Ht.out; omega) hn cf _ hI.out.1 _ (fun w2 h2 => ?_)
   rw [Hq.out, Ht.out] at h2
   have HT2 := Lib.hid (rot_lt hT.out hlt hi)
   have HI2 := Lib.hid (hI.out.trans h2)
   clear h2
   go_wp2
   go_roundg (i + (j - i))
   case measure => omega
   case rel => exact ⟨i, j - i, _, hi, by omega, Nat.le_refl _, rfl, by go_num, HT2, HI2⟩
end Go.Proofs.YtdanebboiekieaaGreatDoor
namespace Go.Proofs.YtdanebboiekieaaGreatDoor
open Go.RowKit
set_option linter.unusedSimpArgs false
set_option linter.unusedVariables false

def wtS (S : List Int) (r : Int) : Int := iAt S r.toNat
theorem cmpW_neg {S : List Int} {a b : Int} : cmpW S a b < 0 ↔ wtS S b < wtS S a := by
 unfold cmpW cmpI wtS
 split
 ·omega
 ·split <;> omega
theorem drewN_below (w : World) (n : Nat) : Below w.heap.size w (w.drewN n) := below_drewN (Below.refl _ _) n
set_option maxHeartbeats 1000000 in
theorem ofCmp_drew (S : List Int) (g n cp bx : Nat) (a b : Int) (w : World) (hI : IntAt g S w) (hl : S.length = n) (hb : w.heap[bx]? = some (.cells #[.slice (some ⟨g, 0, none⟩) n cp] 26 (0, 0))) (ha : 0 ≤ a ∧ a < (n : Int)) (hbb : 0 ≤ b ∧ b < (n : Int)) :
 Calls Tryz.prog 44 #[.int .i64 a, .int .i64 b, .pointer (some ⟨bx, 0, none⟩)] w (fun e w' => e = .returned (.int .i64 (cmpW S a b)) ∧ ∃ m, w' = w.drewN m) := by
 obtain ⟨R, hR⟩ : ∃ R : Ending → World → Prop, R = fun e w' => e = .returned (.int .i64 (cmpW S a b)) ∧ ∃ m, w' = w.drewN m := ⟨_, rfl⟩
 rw [← hR]
 have HR : Hid (∀ m, R (.returned (.int .i64 (cmpW S a b))) (w.drewN m)) := Lib.hid (by
  intro m
  rw [hR]
  exact ⟨rfl, m, rfl⟩)
 clear hR
 obtain ⟨i, rfl⟩ : ∃ i : Nat, a = (i : Int) := ⟨a.toNat, by omega⟩
 obtain ⟨j, rfl⟩ : ∃ j : Nat, b = (j : Int) := ⟨b.toNat, by omega⟩
 unfold cmpW at HR
 rw [Int.toNat_natCast, Int.toNat_natCast] at HR
 have c0 := hI.cell (k := i) (by omega)
 have c1 := hI.cell (k := j) (by omega)
 have lg := hI.lt
 have x0 : w.cell? ⟨bx, 0, none⟩ = some (.slice (some ⟨g, 0, none⟩) n cp) := by rw [blk_cells hb]; rfl
 have l0 := blk_lt hb
 have k1 : (0 : Int) ≤ (i : Int) := Int.natCast_nonneg _
 have k2 : (0 : Int) ≤ (j : Int) := Int.natCast_nonneg _
 have k3 : (i : Int) < (n : Int) := by omega
 have k4 : (j : Int) < (n : Int) := by omega
 generalize iAt S i = p at *
 generalize iAt S j = q at *
 clear hI hl hb ha hbb
 go_enter Tryz.func44, Tryz.ntmps44
 go_wp2
 go_quiet ((go_at_call 45; exact Calls.quiet_of_same (Compare_same _ _ _)))
 all_goals (go_wp2; exact HR.out _)
/-- Insertion on its way: all that lies ahead of i is sorted; x is being moved. -/
structure InsS (S : List Int) (P D Q : List Int) (i j : Nat) (T : List Int) : Prop where
 ex : ∃ (D1 R L1 L2 : List Int) (x : Int), D = D1 ++ x :: R ∧ D1.length + P.length = i ∧ T = P ++ (L1 ++ (x :: (L2 ++ (R ++ Q)))) ∧ P.length + L1.length = j ∧ (L1 ++ L2).Pairwise (fun a b => before (wtS S) a b = true) ∧ (L1 ++ L2).Perm D1 ∧ ∀ y ∈ L2, before (wtS S) x y = true
/-- .. between two rounds. -/
structure InsO (S : List Int) (P D Q : List Int) (i : Nat) (T : List Int) : Prop where
 ex : ∃ (D1 R L : List Int), D = D1 ++ R ∧ D1.length + P.length = i ∧ T = P ++ (L ++ (R ++ Q)) ∧ L.Pairwise (fun a b => before (wtS S) a b = true) ∧ L.Perm D1
theorem insO_start {S P D Q : List Int} {x : Int} {D' : List Int} (h : D = x :: D') : InsO S P D Q (P.length + 1) (P ++ (D ++ Q)) :=
 ⟨[x], D', [x], h, by simp; omega, by rw [h]; rfl, by simp, List.Perm.refl _⟩
theorem insO_end {S P D Q T : List Int} (h : InsO S P D Q (P.length + D.length) T) : T = P ++ (sortW (wtS S) D ++ Q) := by
 obtain ⟨D1, R, L, rfl, h1, rfl, h2, h3⟩ := h.ex
 rw [List.length_append] at h1
 have : R = [] := List.eq_nil_of_length_eq_zero (by omega)
 subst this
 rw [List.append_nil, ← sortW_unique h3 h2]
 rfl
theorem insO_in {S P D Q T : List Int} {i : Nat} (h : InsO S P D Q i T) (hi : i < P.length + D.length) : InsS S P D Q i i T := by
 obtain ⟨D1, R, L, rfl, h1, rfl, h2, h3⟩ := h.ex
 cases R with
 | nil => simp at hi; omega
 | cons x R => exact ⟨D1, R, L, [], x, rfl, h1, by simp, by have := h3.length_eq; omega, by simpa using h2, by simpa using h3, by simp⟩
theorem insS_step {S P D Q T : List Int} {i j : Nat} (hs : D.Pairwise (· < ·)) (h : InsS S P D Q i j T) (hj : P.length < j) (hc : wtS S (iAt T (j - 1)) < wtS S (iAt T j)) : InsS S P D Q i (j - 1) (swp T j (j - 1)) := by
 obtain ⟨D1, R, L1, L2, x, rfl, h1, rfl, h2, h3, h4, h5⟩ := h.ex
 obtain ⟨L, y, rfl⟩ : ∃ L y, L1 = L ++ [y] := by
  rcases List.eq_nil_or_concat L1 with e | ⟨L, y, e⟩
  ·rw [e] at h2; simp at h2; omega
  ·exact ⟨L, y, by rw [e, List.concat_eq_append]⟩
 rw [List.length_append, List.length_singleton] at h2
 have e0 : iAt (P ++ (L ++ [y] ++ (x :: (L2 ++ (R ++ Q))))) (j - 1) = y := by
  rw [List.append_assoc, iAt_right (by omega), iAt_right (by omega), show j - 1 - P.length - L.length = 0 by omega]
  rfl
 have e1 : iAt (P ++ (L ++ [y] ++ (x :: (L2 ++ (R ++ Q))))) j = x := by
  rw [List.append_assoc, iAt_right (by omega), iAt_right (by omega), show j - P.length - L.length = 1 by omega]
  rfl
 rw [e0, e1] at hc
 refine ⟨D1, R, L, y :: L2, x, rfl, h1, ?_, by omega, by simpa using h3, by simpa using h4, ?_⟩
 ·have e2 : swp (P ++ (L ++ [y] ++ (x :: (L2 ++ (R ++ Q))))) j (j - 1) = swpTo (P ++ (L ++ [y] ++ (x :: (L2 ++ (R ++ Q))))) (j - 1) j 1 := swp_comm (by omega)
  have e3 : swpTo (P ++ (L ++ [y] ++ (x :: (L2 ++ (R ++ Q))))) (j - 1) j 1 = (P ++ L) ++ ([x] ++ ([] ++ ([y] ++ (L2 ++ (R ++ Q))))) :=
   swpTo_at (A := P ++ L) (U := [y]) (M := []) (V := [x]) (B := L2 ++ (R ++ Q)) (by simp) rfl rfl (by rw [List.length_append]; omega) (by rw [List.length_append, List.length_singleton, List.length_nil]; omega)
  rw [e2, e3]
  simp
 ·intro z hz
  rcases List.mem_cons.1 hz with rfl | hz
  ·unfold before
   simp [hc]
  ·exact h5 z hz
theorem insS_stop {S P D Q T : List Int} {i j : Nat} (hs : D.Pairwise (· < ·)) (h : InsS S P D Q i j T) (hc : P.length < j → ¬ wtS S (iAt T (j - 1)) < wtS S (iAt T j)) : InsO S P D Q (i + 1) T := by
 obtain ⟨D1, R, L1, L2, x, rfl, h1, rfl, h2, h3, h4, h5⟩ := h.ex
 have hlt : ∀ y ∈ L1 ++ L2, y < x := fun y hy => by
  have := (List.pairwise_append.1 hs).2.2 y (h4.mem_iff.1 hy) x (by simp)
  exact this
 have hL : ∀ y ∈ L1, before (wtS S) y x = true := by
  rcases List.eq_nil_or_concat L1 with e | ⟨L, y, e⟩
  ·rw [e]; simp
  ·rw [List.concat_eq_append] at e
   subst e
   rw [List.length_append, List.length_singleton] at h2
   have hc := hc (by omega)
   have e0 : iAt (P ++ (L ++ [y] ++ (x :: (L2 ++ (R ++ Q))))) (j - 1) = y := by
    rw [List.append_assoc, iAt_right (by omega), iAt_right (by omega), show j - 1 - P.length - L.length = 0 by omega]
    rfl
   have e1 : iAt (P ++ (L ++ [y] ++ (x :: (L2 ++ (R ++ Q))))) j = x := by
    rw [List.append_assoc, iAt_right (by omega), iAt_right (by omega), show j - P.length - L.length = 1 by omega]
    rfl
   rw [e0, e1] at hc
   have hyx : before (wtS S) y x = true := by
    have := hlt y (by simp)
    unfold before
    simp
    omega
   intro z hz
   rcases List.mem_append.1 hz with hz | hz
   ·rw [List.append_assoc] at h3
    exact before_trans _ _ _ _ ((List.pairwise_append.1 h3).2.2 z hz y (by simp)) hyx
   ·rw [List.mem_singleton.1 hz]; exact hyx
 refine ⟨D1 ++ [x], R, L1 ++ x :: L2, by simp, by simp; omega, by simp, ?_, ?_⟩
 ·have h6 := List.pairwise_append.1 h3
  refine List.pairwise_append.2 ⟨h6.1, List.pairwise_cons.2 ⟨h5, h6.2.1⟩, fun a ha b hb => ?_⟩
  rcases List.mem_cons.1 hb with rfl | hb
  ·exact hL a ha
  ·exact h6.2.2 a ha b hb
 ·exact (List.perm_middle.trans (h4.cons x)).trans (List.perm_append_singleton x D1).symm
end Go.Proofs.YtdanebboiekieaaGreatDoor
