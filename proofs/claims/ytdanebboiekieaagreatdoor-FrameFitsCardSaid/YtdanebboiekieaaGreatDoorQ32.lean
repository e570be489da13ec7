/- colour: free. colour: wishes, paint. -/
import Derived.Test.YtdanebboiekieaaGreatDoorQ31
import Derived.Test.YtdanebboiekieaaGreatDoorQ01
import Derived.Test.YtdanebboiekieaaGreatDoorRows
import Derived.IntWalk
import Derived.Outline
import Derived.Deep.LoopGhost
import Derived.Deep.RegionLaw
import Derived.Deep.CutBlock
import Derived.Deep.DeepCutAuto
import Derived.RangeFuncNested
import Derived.RangeFuncBound
import Derived.RangeFuncCalls
import Derived.RangeFuncLeaves
import Derived.Shelf.Abstract
import Derived.Shelf.RegionOpen
import Derived.WalkKit
import Derived.OwnWalkIn
import Derived.TacticsInMore
import Derived.LoopNIn
import Derived.LoopIn
import Derived.Sort.CutIn
namespace Go.Proofs.YtdanebboiekieaaGreatDoor
open Go.RowKit
set_option linter.unusedSimpArgs false
set_option linter.unusedVariables false

theorem IndexG_calls (v : Value) (xs : List Int) (t : Int) (w : World) (h : rpInt.SL w w.heap.size xs v) (R : Ending → World → Prop)
 (hin : ∀ k : Nat, k < xs.length → xs.getD k 0 = t → R (.returned (.int .i64 (k : Int))) w) (hout : (∀ k, k < xs.length → xs.getD k 0 ≠ t) → R (.returned (.int .i64 (-1))) w) :
 Calls Tryz.prog 63 #[v, .int .i64 t] w R := by
 obtain ⟨A, c, rfl, hm, hcap, hs⟩ := h.cases_
 have Hin := Lib.hid hin
 have Hout := Lib.hid hout
 clear hin hout h
 go_enter Tryz.func63, Tryz.ntmps63
 go_wp2
 go_loopg [5, 8] xs.length (fun g o i wr => ∃ k : Nat, k ≤ xs.length ∧ g = xs.length - k ∧ i = .int .i64 k ∧ (∀ j, j < k → xs.getD j 0 ≠ t) ∧ wr = w)
 case atStart => exact ⟨0, Nat.zero_le _, rfl, rfl, (fun j hj => absurd hj (Nat.not_lt_zero _)), rfl⟩
 case round =>
  obtain ⟨k, hk, rfl, rfl, hne, rfl⟩ := hrel
  have Hne := Lib.hid hne
  clear hne
  by_cases hlt : k < xs.length
  ·obtain ⟨b, off, rfl, hb, p0⟩ := hs.int_at hlt
   have i1 : (0 : Int) ≤ (k : Int) := Int.natCast_nonneg _
   have i2 : (k : Int) < (xs.length : Int) := by omega
   have Hk : Hid (xs.getD k 0 = t → R (.returned (.int .i64 (k : Int))) wr) := Hin.out k hlt
   obtain ⟨x, hx⟩ : ∃ x, xs.getD k 0 = x := ⟨_, rfl⟩
   rw [hx] at p0 Hk
   have Hx := Lib.hid hx
   clear hx
   by_cases hxt : t = x
   ·subst hxt
    have HR : Hid (R (.returned (.int .i64 (k : Int))) wr) := Hk.out rfl
    clear Hk Hin Hout
    go_wp2
    exact HR.out
   ·have hb' : (t == x) = false := by simp [hxt]
    go_wp2
    go_roundg (xs.length - (k + 1))
    case measure => omega
    case rel =>
     refine ⟨k + 1, by omega, rfl, by go_num, fun j hj => ?_, rfl⟩
     rcases Nat.lt_succ_iff_lt_or_eq.1 hj with h1 | rfl
     ·exact Hne.out j h1
     ·rw [Hx.out]; exact fun e => hxt e.symm
  ·obtain rfl : k = xs.length := by omega
   have HR : Hid (R (.returned (.int .i64 (-1))) wr) := Hout.out Hne.out
   clear Hin Hout Hne
   go_wp2
   exact HR.out

theorem ContainsG_calls (v : Value) (xs : List Int) (t : Int) (w : World) (h : rpInt.SL w w.heap.size xs v) (R : Ending → World → Prop)
 (hR : R (.returned (.bool (decide (t ∈ xs)))) w) :
 Calls Tryz.prog 30 #[v, .int .i64 t] w R := by
 have HR := Lib.hid hR
 clear hR
 go_enter Tryz.func30, Tryz.ntmps30
 go_wp2_with fail
 refine IndexG_calls _ xs t _ h _ (fun k hk e => ?_) (fun hn => ?_)
 ·have hin : decide (t ∈ xs) = true := by
   have : t ∈ xs := by rw [← e, List.getD_eq_getElem?_getD, List.getElem?_eq_getElem hk]; exact List.getElem_mem hk
   simp [this]
  rw [hin] at HR
  have i1 : (0 : Int) ≤ (k : Int) := Int.natCast_nonneg _
  clear hin
  go_wp2
  exact HR.out
 ·have hin : decide (t ∈ xs) = false := by
   have : t ∉ xs := by
    intro hm
    obtain ⟨k, hk, e⟩ := List.getElem_of_mem hm
    exact hn k hk (by rw [List.getD_eq_getElem?_getD, List.getElem?_eq_getElem hk]; exact e)
   simp [this]
  rw [hin] at HR
  clear hin hn
  go_wp2
  exact HR.out
def freeI (gv acl row pl : List Int) (r p : Int) : Bool := decide (p ∈ gv) && (decide (6 ≤ p) || !decide (r ∈ acl)) && !takenI row pl p
theorem IntAt.SLn {g cp : Nat} {S : List Int} {w : World} (h : IntAt g S w) (hm : S.length ≤ maxLen ∧ S.length ≤ cp) : rpInt.SL w w.heap.size S (.slice (some ⟨g, 0, none⟩) S.length cp) := h.SL hm.1 hm.2
set_option maxHeartbeats 1000000 in
theorem free_calls (P : PW) (p : Int) (r : Nat) (hr : r < P.rows.length) (w : World) (hN : PaintN P w) (R : Ending → World → Prop)
 (hR : ∀ w', Below w.heap.size w w' → R (.returned (.bool (freeI P.gv P.acl P.rows[r] P.pl (r : Int) p))) w') :
 Calls Tryz.prog 82 #[.pointer (some ⟨P.PB, 0, none⟩), .int .i64 (r : Int), .int .i64 p] w R := by
 unfold freeI at hR
 have HR := Lib.hid hR
 have HN := Lib.hid hN
 have x2 : w.cell? ⟨P.PB, 5, none⟩ = some (.slice P.aA P.acl.length P.ac) := by rw [blk_cells hN.bx]; rfl
 have x3 : w.cell? ⟨P.PB, 6, none⟩ = some (.slice (some ⟨P.gg, 0, none⟩) P.gv.length P.cg) := by rw [blk_cells hN.bx]; rfl
 have l2 := blk_lt hN.bx
 have hT := Lib.hid (taken_calls P p r hr w hN)
 have hA := Lib.hid (ContainsG_calls (.slice P.aA P.acl.length P.ac) P.acl (r : Int) w (hN.ac.up (Below.refl _ _) hN.le))
 have hG := Lib.hid (ContainsG_calls (.slice (some ⟨P.gg, 0, none⟩) P.gv.length P.cg) P.gv p w (hN.gv.SLn hN.mg))
 generalize takenI P.rows[r] P.pl p = t at *
 generalize decide (p ∈ P.gv) = g at *
 generalize decide ((r : Int) ∈ P.acl) = a at *
 have hx : (6 : Int) ≤ p ∨ ¬ (6 : Int) ≤ p := by omega
 clear hR hN
 go_enter Tryz.func82, Tryz.ntmps82
 rcases hx with hx | hx
 ·have hd := Lib.hid (decide_eq_true hx)
  go_wp2_with fail
  refine hG.out _ ?_
  cases g
  ·go_wp2
   all_goals (have := HR.out w (Below.refl _ _); simpa [hd.out] using this)
  ·go_wp2_with fail
   refine hT.out _ (fun w1 hb1 => ?_)
   have := HR.out w1 hb1
   have HF := Lib.hid this
   cases t
   all_goals (go_wp2; simpa [hd.out] using HF.out)
 ·have hd := Lib.hid (decide_eq_false hx)
  go_wp2_with fail
  refine hA.out _ ?_
  cases a
  ·go_wp2_with fail
   refine hG.out _ ?_
   cases g
   ·go_wp2
    all_goals (have := HR.out w (Below.refl _ _); simpa [hd.out] using this)
   ·go_wp2_with fail
    refine hT.out _ (fun w1 hb1 => ?_)
    have := HR.out w1 hb1
    have HF := Lib.hid this
    cases t
    all_goals (go_wp2; simpa [hd.out] using HF.out)
  ·go_wp2_with fail
   refine hG.out _ ?_
   cases g
   all_goals (go_wp2; have := HR.out w (Below.refl _ _); simpa [hd.out] using this)
end Go.Proofs.YtdanebboiekieaaGreatDoor
namespace Go.Proofs.YtdanebboiekieaaGreatDoor
open Go.RowKit Go.Shelf
set_option linter.unusedSimpArgs false
set_option linter.unusedVariables false
attribute [local go_sem] Oper.semAt_some

set_option maxHeartbeats 1000000 in
theorem wishes_calls (p : Value) (b : Nat) (hp : p = .pointer (some ⟨b, 0, none⟩)) (r : Int) (w : World) (R : Ending → World → Prop)
 (hR : R (.returned (.func (.func 104) #[] #[.pointer (some ⟨w.heap.size + 1, 0, none⟩), .pointer (some ⟨w.heap.size, 0, none⟩)])) ((w.alloc (Obj.cells #[p] 93)).alloc (Obj.cells #[.int .i64 r] 3))) :
 Calls Tryz.prog 81 #[p, .int .i64 r] w R := by
 subst hp
 have HR := Lib.hid hR
 clear hR
 go_enter Tryz.func81, Tryz.ntmps81
 go_wp2
 exact HR.out
theorem takenI_eq {row pl : List Int} {n : Nat} (hl : pl.length = n) (h : ∀ o ∈ row, 0 ≤ o ∧ o < (n : Int)) (p : Int) : takenI row pl p = takenB row pl p := by
 unfold takenI takenB
 rw [Bool.eq_iff_iff, List.any_eq_true, List.any_eq_true]
 have key : ∀ o ∈ row, iAt pl o.toNat = pl.getD o.toNat (-1) := fun o ho => by
  have := h o ho
  unfold iAt
  rw [List.getD_eq_getElem?_getD, List.getD_eq_getElem?_getD, List.getElem?_eq_getElem (by omega)]
  rfl
 constructor
 ·rintro ⟨o, ho, h1⟩
  exact ⟨o, ho, by rw [← key o ho]; exact h1⟩
 ·rintro ⟨o, ho, h1⟩
  exact ⟨o, ho, by rw [key o ho]; exact h1⟩
def PW.wishA (P : PW) (r : Nat) : List Int := P.f.blocks.flatMap (asksJ P.pl r) ++ (if (r : Int) < P.f.params then [(r : Int)] else []) ++ P.gv
def PW.row (P : PW) (r : Nat) : List Int := P.rows.getD r []
def PW.fr (P : PW) (r : Nat) (p : Int) : Bool := freeI P.gv P.acl (P.row r) P.pl (r : Int) p
def PW.paint (P : PW) (r : Nat) : Int :=
 match (P.wishA r).find? (P.fr r) with
 | some p => p
 | none => slotP (takenB (P.row r) P.pl)
theorem res_int1 {fn : Func} {p : Tmp} (h : fn.results = #[.cell p 3]) {tmps : Array Value} {b : Nat} {w : World} {x : Value} (hp : tmps.getD p undef = .pointer (some ⟨b, 0, none⟩))
 (hc : w.cell? ⟨b, 0, none⟩ = some x) : (results fn tmps).run Tryz.prog w = .ok x w := by
 rw [Array.getD_eq_getD_getElem?] at hp
 simp [results, h, hp, go_sem, hc]
theorem find_stop {α : Type} {f : α → Bool} {l pre : List α} {v : α} (hp : pre ++ [v] <+: l) (h1 : ∀ x ∈ pre, f x = false) (h2 : f v = true) : l.find? f = some v := by
 obtain ⟨t, rfl⟩ := hp
 rw [List.append_assoc, List.find?_append, List.find?_eq_none.2 (fun x hx => by rw [h1 x hx]; decide)]
 simp [h2]
set_option maxRecDepth 100000 in
set_option maxHeartbeats 4000000 in
theorem paint_calls (P : PW) (r : Nat) (hr : r < P.rows.length) (hx : ∀ b ∈ P.f.blocks, ∀ x ∈ b.list, x.op = 1 → x.a.reg = true → (0 ≤ x.dst ∧ x.dst < (P.n : Int)) ∧ (0 ≤ x.a.n ∧ x.a.n < (P.n : Int)))
 (hmx : P.f.blocks.length ≤ maxLen ∧ P.gv.length ≤ maxLen ∧ ∀ b ∈ P.f.blocks, b.list.length ≤ maxLen) (h100 : (P.row r).length ≤ 100) (w : World) (hN : PaintN P w) (R : Ending → World → Prop)
 (hR : ∀ w', Below w.heap.size w w' → R (.returned (.int .i64 (P.paint r))) w') :
 Calls Tryz.prog 46 #[.pointer (some ⟨P.PB, 0, none⟩), .int .i64 (r : Int)] w R := by
 have hrow : P.row r = P.rows[r] := by
  unfold PW.row
  rw [List.getD_eq_getElem?_getD, List.getElem?_eq_getElem hr]
  rfl
 have Hrow := Lib.hid hrow
 have HR := Lib.hid hR
 have HN := Lib.hid hN
 have lPB := blk_lt hN.bx
 clear hR hrow
 refine (callsIn_wide (n := 7)).1 ?_
 refine callsIn_of_wp_marks Tryz.func46 rfl trivial ?_ rfl
 simp only [Tryz.ntmps46, List.size_toArray, List.length_cons, List.length_nil, Nat.reduceAdd, Nat.reduceSub, Array.replicate_succ, Array.replicate_zero, List.push_toArray, List.append_toArray, List.nil_append, List.cons_append]
 gi_wp2
 refine ⟨trivial, callsIn_wide.2 (wishes_calls _ _ rfl _ _ _ ?_)⟩
 gi_wp2
 obtain ⟨B, hB⟩ : ∃ B, B = w.heap.size := ⟨_, rfl⟩
 obtain ⟨W3, hW3⟩ : ∃ W3, W3 = (((((w.alloc (Obj.cells #[.pointer (some ⟨P.PB, 0, none⟩)] 93)).alloc (Obj.cells #[.int .i64 (r : Int)] 3)).alloc (Obj.cells #[.int .i64 0] 3)).alloc (Obj.cells #[.pointer (some ⟨P.PB, 0, none⟩)] 93)).alloc (Obj.cells #[.int .i64 (r : Int)] 3)) := ⟨_, rfl⟩
 have hsz : W3.heap.size = B + 5 := by subst hW3 hB; simp
 have hb3 : Below w.heap.size w W3 := by subst hW3; exact bl0
 have hc0 : W3.heap[B]? = some (.cells #[.pointer (some ⟨P.PB, 0, none⟩)] 93 (0, 0)) := by
  subst hW3
  exact (blk_alloc (blk_alloc (blk_alloc (blk_alloc (by have := heap_alloc_new w (Obj.cells #[.pointer (some ⟨P.PB, 0, none⟩)] 93); rwa [show w.heap.size = B from by subst hB; simp] at this) _) _) _) _)
 have hc1 : W3.heap[B + 1]? = some (.cells #[.int .i64 (r : Int)] 3 (0, 0)) := by
  subst hW3
  exact (blk_alloc (blk_alloc (blk_alloc (by have := heap_alloc_new (w.alloc (Obj.cells #[.pointer (some ⟨P.PB, 0, none⟩)] 93)) (Obj.cells #[.int .i64 (r : Int)] 3); rwa [show (w.alloc (Obj.cells #[.pointer (some ⟨P.PB, 0, none⟩)] 93)).heap.size = B + 1 from by subst hB; simp] at this) _) _) _)
 have hc2 : W3.heap[B + 1 + 1]? = some (.cells #[.int .i64 0] 3 (0, 0)) := by
  subst hW3
  exact (blk_alloc (blk_alloc (by have := heap_alloc_new ((w.alloc (Obj.cells #[.pointer (some ⟨P.PB, 0, none⟩)] 93)).alloc (Obj.cells #[.int .i64 (r : Int)] 3)) (Obj.cells #[.int .i64 0] 3); rwa [show ((w.alloc (Obj.cells #[.pointer (some ⟨P.PB, 0, none⟩)] 93)).alloc (Obj.cells #[.int .i64 (r : Int)] 3)).heap.size = B + 1 + 1 from by subst hB; simp] at this) _) _)
 have hc3 : W3.heap[B + 1 + 1 + 1]? = some (.cells #[.pointer (some ⟨P.PB, 0, none⟩)] 93 (0, 0)) := by
  subst hW3
  exact (blk_alloc (by have := heap_alloc_new (((w.alloc (Obj.cells #[.pointer (some ⟨P.PB, 0, none⟩)] 93)).alloc (Obj.cells #[.int .i64 (r : Int)] 3)).alloc (Obj.cells #[.int .i64 0] 3)) (Obj.cells #[.pointer (some ⟨P.PB, 0, none⟩)] 93); rwa [show (((w.alloc (Obj.cells #[.pointer (some ⟨P.PB, 0, none⟩)] 93)).alloc (Obj.cells #[.int .i64 (r : Int)] 3)).alloc (Obj.cells #[.int .i64 0] 3)).heap.size = B + 1 + 1 + 1 from by subst hB; simp] at this) _)
 have hc4 : W3.heap[B + 1 + 1 + 1 + 1]? = some (.cells #[.int .i64 (r : Int)] 3 (0, 0)) := by
  subst hW3
  exact (by have := heap_alloc_new ((((w.alloc (Obj.cells #[.pointer (some ⟨P.PB, 0, none⟩)] 93)).alloc (Obj.cells #[.int .i64 (r : Int)] 3)).alloc (Obj.cells #[.int .i64 0] 3)).alloc (Obj.cells #[.pointer (some ⟨P.PB, 0, none⟩)] 93)) (Obj.cells #[.int .i64 (r : Int)] 3); rwa [show ((((w.alloc (Obj.cells #[.pointer (some ⟨P.PB, 0, none⟩)] 93)).alloc (Obj.cells #[.int .i64 (r : Int)] 3)).alloc (Obj.cells #[.int .i64 0] 3)).alloc (Obj.cells #[.pointer (some ⟨P.PB, 0, none⟩)] 93)).heap.size = B + 1 + 1 + 1 + 1 from by subst hB; simp] at this)
 rw [show (((((w.alloc (Obj.cells #[.pointer (some ⟨P.PB, 0, none⟩)] 93)).alloc (Obj.cells #[.int .i64 (r : Int)] 3)).alloc (Obj.cells #[.int .i64 0] 3)).alloc (Obj.cells #[.pointer (some ⟨P.PB, 0, none⟩)] 93)).alloc (Obj.cells #[.int .i64 (r : Int)] 3)) = W3 from hW3.symm, ← hB]
 have hle : P.b0 ≤ B := by have := HN.out.le; omega
 have hlp : P.gp < B := by have := HN.out.pl.lt; omega
 have hlg : P.gg < B := by have := HN.out.gv.lt; omega
 have hlP : P.PB < B := by omega
 have HB := Lib.hid hB
 have HSZ := Lib.hid hsz
 clear hW3 lPB
 have Hc0 := Lib.hid hc0
 have Hc1 := Lib.hid hc1
 have Hc2 := Lib.hid hc2
 have HN3 := Lib.hid (HN.out.below hb3)
 have Hb3 := Lib.hid hb3
 obtain ⟨Q, hQ⟩ : ∃ Q : WP, Q = ⟨P.f, P.pl, P.gv, r, P.nm, .slice P.cA P.rows.length P.cc, .slice P.aA P.acl.length P.ac, P.A, P.cb, P.PB, B + 1 + 1 + 1 + 1, B + 1 + 1 + 1, P.gp, P.cp, P.gg, P.cg, P.b0, B + 1 + 1, P.n, P.hpl, hx⟩ := ⟨_, rfl⟩
 have HQw : Hid (Q.wishL = P.wishA r) := Lib.hid (by subst hQ; rfl)
 have hWN : WishN Q W3 := by
  subst hQ
  exact ⟨hc4, hc3, HN3.out.bx, HN3.out.bl, HN3.out.pl, HN3.out.gv, ⟨by show B + 1 + 1 + 1 + 1 ≠ B + 1 + 1; omega, by show B + 1 + 1 + 1 ≠ B + 1 + 1; omega, by show P.PB ≠ B + 1 + 1; omega, by show P.gp ≠ B + 1 + 1; omega, by show P.gg ≠ B + 1 + 1; omega⟩, by show P.b0 ≤ B + 1 + 1; omega, by show B + 1 + 1 < W3.heap.size; omega⟩
 have hst := wishes1_stops 6 (by decide) Q (by subst hQ; exact hmx) W3 hWN
 rw [show Q.Br = B + 1 + 1 + 1 + 1 by rw [hQ], show Q.Bp = B + 1 + 1 + 1 by rw [hQ], show Q.Rc = B + 1 + 1 by rw [hQ], HQw.out] at hst
 have Hst := Lib.hid hst
 clear hst hWN hQ HQw hc0 hc1 hc2 hc3 hc4 hb3 hB hsz
 refine wpIn_rangeFunc_ownH (F := Fence.wide) rfl (by decide) (gf := 104) (lb := #[.pointer (some ⟨B + 1 + 1 + 1 + 1, 0, none⟩), .pointer (some ⟨B + 1 + 1 + 1, 0, none⟩)]) rfl trivial (enters_of Tryz.func104 (by kernel_rfl) rfl)
  Hst.out (fun h k => h.trans k) (fun W l o o' _ h1 h2 _ => CKeep.putObj W l o o' h1 h2) (Below.refl _ _) (fun _ => rfl)
  (fun pre W => Below W3.heap.size W3 W ∧ ∀ v ∈ pre, P.fr r v = false)
  (fun c pre W => c = Code.ret ∧ Below w.heap.size w W ∧ ∃ l v, pre = l ++ [v] ∧ (∀ x ∈ l, P.fr r x = false) ∧ P.fr r v = true ∧ W.heap[B + 1 + 1]? = some (.cells #[.int .i64 v] 3 (0, 0)))
  ?own ?ownx ⟨Below.refl _ _, fun _ h => by cases h⟩
  (fun v a' W => a' = { tmps := #[.pointer (some ⟨P.PB, 0, none⟩), .int .i64 (r : Int), .pointer (some ⟨B, 0, none⟩), .pointer (some ⟨B + 1, 0, none⟩), .pointer (some ⟨B + 1 + 1, 0, none⟩), .int .i64 v, undef, .pointer (some ⟨P.PB, 0, none⟩), .int .i64 (r : Int), .func (.func 104) #[] #[.pointer (some ⟨B + 1 + 1 + 1 + 1, 0, none⟩), .pointer (some ⟨B + 1 + 1 + 1, 0, none⟩)], .int .i64 v, undef, undef, undef, undef, undef, undef, undef, undef, undef, undef, undef, undef], defers := [] })
  (fun v a' s X Y row hs hg hr => hs) ?assign ?body ?done ?stop
 case own =>
  intro s X Y row hs hg hr
  exact ⟨ownFrom_below (Nat.le_refl _) (Nat.le_refl _) () X Y row hs.1 hg hr, hs.2⟩
 case ownx =>
  rintro c s X Y row ⟨h1, h2, l, v, h3, h4, h5, h6⟩ hg hr
  exact ⟨h1, ownFrom_below (Nat.le_refl _) Hb3.out.size () X Y row h2 hg hr, l, v, h3, h4, h5, blk_own _ _ _ _ W3.heap.size () X Y row h6 hg hr⟩
 case assign =>
  rintro l pre v W K ⟨hI, hF⟩ hK
  gi_wp2
  exact hK _ _ (KeepsFrom.refl _ _) (CKeep.refl _ _) ⟨hI, hF⟩ rfl
 case body =>
  rintro l pre v a' W hl ⟨rr, hrr⟩ ⟨hI, hF⟩ rfl hlen
  have hi0 := (hI.block _ (blk_lt Hc0.out)).trans Hc0.out
  have hi1 := (hI.block _ (blk_lt Hc1.out)).trans Hc1.out
  have hi2 := (hI.block _ (blk_lt Hc2.out)).trans Hc2.out
  have x0 : W.cell? ⟨B, 0, none⟩ = some (.pointer (some ⟨P.PB, 0, none⟩)) := by rw [blk_cells hi0]; rfl
  have x1 : W.cell? ⟨B + 1, 0, none⟩ = some (.int .i64 (r : Int)) := by rw [blk_cells hi1]; rfl
  have l0 := blk_lt hi0
  have l1 := blk_lt hi1
  have HI := Lib.hid hI
  have HF := Lib.hid hF
  clear hI hF hi0 hi1 hi2
  gi_wp2
  refine ⟨trivial, CallsIn.inRound l (callsIn_wide.2 (free_calls P v r hr _ (HN3.out.below HI.out) _ (fun w1 hb1 => ?_)))⟩
  have HI1 := Lib.hid (HI.out.trans (hb1.mono HI.out.size))
  have Hb1 := Lib.hid hb1
  rw [← Hrow.out]
  have hfr : freeI P.gv P.acl (P.row r) P.pl (r : Int) v = P.fr r v := rfl
  rw [hfr]
  clear hfr hb1 x0 x1 l0 l1
  cases hv : P.fr r v
  ·gi_wp2
   exact ⟨KeepsFrom.of_grownBy (grown_of_below Hb1.out none) (fun j e => by cases e), CKeep.of_below Hb1.out, HI1.out, fun x hx => by
    rcases List.mem_append.1 hx with h | h
    ·exact HF.out x h
    ·rw [List.mem_singleton.1 h]; exact hv⟩
  ·have hi2 := (HI1.out.block _ (blk_lt Hc2.out)).trans Hc2.out
   have x2 : w1.cell? ⟨B + 1 + 1, 0, none⟩ = some (.int .i64 0) := by rw [blk_cells hi2]; rfl
   have l2 := blk_lt hi2
   have y2 : w1.frozen? ⟨B + 1 + 1, 0, none⟩ = false := by simp [World.frozen?, hi2]
   have Hi2 := Lib.hid hi2
   clear hi2
   gi_wp2
   have hblk : (w1.setCell ⟨B + 1 + 1, 0, none⟩ (.int .i64 v)).heap[B + 1 + 1]? = some (.cells #[.int .i64 v] 3 (0, 0)) := block_set (j := 0) Hi2.out _
   have hg1 : W.grownBy (w1.setCell ⟨B + 1 + 1, 0, none⟩ (.int .i64 v)) (some (B + 1 + 1)) := (grown_of_below Hb1.out _).trans (grown_setCell _ _ _)
   refine ⟨KeepsFrom.of_grownBy hg1 (fun j e => by cases e; have := HSZ.out; omega), rfl, ?_, pre, v, rfl, HF.out, hv, hblk⟩
   exact (Hb3.out.trans (HI.out.mono Hb3.out.size)).grown hg1 (Nat.le_trans Hb3.out.size HI.out.size) (fun k e => by cases e; have := HB.out; omega)
 case done =>
  rintro D xs W hD rfl ⟨hI, hF⟩ hK
  have HI := Lib.hid hI
  have HF := Lib.hid hF
  have HK := Lib.hid hK
  have HD := Lib.hid hD
  clear hI hF hK hD
  obtain ⟨J, hJ1, hJ2, hJ3, hJ4⟩ := slot_spec (row := P.row r) (pl := P.pl) h100
  have HJ2 : Hid (P.paint r = 16 + (J : Int)) := Lib.hid (by
   unfold PW.paint
   rw [List.find?_eq_none.2 (fun x hx => by rw [HF.out x hx]; decide)]
   exact hJ2)
  have HJ3 := Lib.hid hJ3
  have HJ4 := Lib.hid hJ4
  clear hJ2 hJ3 hJ4
  gi_wp2
  gi_loopw [6] (fun i wr => ∃ j : Nat, j ≤ J ∧ i = .int .i64 (16 + (j : Int)) ∧ Hid (Below W.heap.size W wr))
   (fun i _ => J - (intOf i - 16).toNat)
  case atStart => exact ⟨0, Nat.zero_le _, rfl, Lib.hid (Below.refl _ _)⟩
  case round =>
   obtain ⟨j, hj, rfl, HW⟩ := hrel
   have HI2 := Lib.hid (HI.out.trans (HW.out.mono HI.out.size))
   have hi0 := (HI2.out.block _ (blk_lt Hc0.out)).trans Hc0.out
   have hi1 := (HI2.out.block _ (blk_lt Hc1.out)).trans Hc1.out
   have x0 : wr.cell? ⟨B, 0, none⟩ = some (.pointer (some ⟨P.PB, 0, none⟩)) := by rw [blk_cells hi0]; rfl
   have x1 : wr.cell? ⟨B + 1, 0, none⟩ = some (.int .i64 (r : Int)) := by rw [blk_cells hi1]; rfl
   have l0 := blk_lt hi0
   have l1 := blk_lt hi1
   clear hi0 hi1
   gi_wp2
   refine ⟨trivial, callsIn_wide.2 (taken_calls P (16 + (j : Int)) r hr _ (HN3.out.below HI2.out) _ (fun w1 hb1 => ?_))⟩
   rw [← Hrow.out, takenI_eq P.hpl (by rw [Hrow.out]; exact P.hrow _ (List.getElem_mem hr))]
   have HW1 := Lib.hid (HW.out.trans (hb1.mono HW.out.size))
   have HI1 := Lib.hid (HI.out.trans (HW1.out.mono HI.out.size))
   clear hb1 x0 x1 l0 l1
   cases hv : takenB (P.row r) P.pl (16 + (j : Int))
   ·have hjJ : J = j := by
     rcases Nat.lt_or_ge j J with h | h
     ·rw [HJ4.out j h] at hv; cases hv
     ·omega
    subst hjJ
    have hi2 := (HI1.out.block _ (blk_lt Hc2.out)).trans Hc2.out
    have x2 : w1.cell? ⟨B + 1 + 1, 0, none⟩ = some (.int .i64 0) := by rw [blk_cells hi2]; rfl
    have l2 := blk_lt hi2
    have y2 : w1.frozen? ⟨B + 1 + 1, 0, none⟩ = false := by simp [World.frozen?, hi2]
    have Hi2 := Lib.hid hi2
    have HK1 := Lib.hid ((HW1.out.block D (Array.getElem?_eq_some_iff.1 HK.out).1).trans HK.out)
    clear hi2 hv
    gi_wp2
    have hblk : (w1.setCell ⟨B + 1 + 1, 0, none⟩ (.int .i64 (16 + (J : Int)))).heap[B + 1 + 1]? = some (.cells #[.int .i64 (16 + (J : Int))] 3 (0, 0)) := block_set (j := 0) Hi2.out _
    have hDr : D ≠ B + 1 + 1 := by have := HD.out; have := HSZ.out; omega
    have hKs : (w1.setCell ⟨B + 1 + 1, 0, none⟩ (.int .i64 (16 + (J : Int)))).heap[D]? = some (.deferred (some [])) := (Below.heap_setCell _ _ _ _ hDr).trans HK1.out
    have hbe : Below w.heap.size w (w1.setCell ⟨B + 1 + 1, 0, none⟩ (.int .i64 (16 + (J : Int)))) := (Hb3.out.trans (HI1.out.mono Hb3.out.size)).grown (grown_setCell _ _ _) (Nat.le_trans Hb3.out.size HI1.out.size) (fun k e => by cases e; have := HB.out; show w.heap.size ≤ B + 1 + 1; omega)
    refine leaves_marks (n₀ := w.heap.size) hbe.size (.cons (Nat.le_trans Hb3.out.size HD.out) hKs (fun _ h => by cases h) .nil) (fun w' hsh => ?_)
    have hblk' := hsh.cells _ _ hblk (fun x e => by cases e)
    refine ⟨_, res_int1 (by rfl) (by rfl) (show w'.cell? ⟨B + 1 + 1, 0, none⟩ = some (.int .i64 (16 + (J : Int))) by rw [blk_cells hblk']; rfl), ?_⟩
    rw [← HJ2.out]
    exact HR.out w' (hbe.trans hsh.bel)
   ·have hjJ : j < J := by
     rcases Nat.lt_or_ge j J with h | h
     ·exact h
     ·have : j = J := by omega
      subst this
      rw [HJ3.out] at hv
      cases hv
    clear hv
    gi_wp2
    go_roundw
    case rel => exact ⟨j + 1, by omega, by go_num, HW1⟩
    case measure => simp [intOf] <;> omega
 case stop =>
  rintro D c pre W hD hpre ⟨rfl, hbw, l, v, rfl, h4, h5, h6⟩ hK
  have HFd : Hid (P.paint r = v) := Lib.hid (by
   unfold PW.paint
   rw [find_stop hpre h4 h5])
  gi_wp2
  refine leaves_marks (n₀ := w.heap.size) hbw.size (.cons (Nat.le_trans Hb3.out.size hD) hK (fun _ h => by cases h) .nil) (fun w' hsh => ?_)
  have hblk' := hsh.cells _ _ h6 (fun x e => by cases e)
  refine ⟨_, res_int1 (by rfl) (by rfl) (show w'.cell? ⟨B + 1 + 1, 0, none⟩ = some (.int .i64 v) by rw [blk_cells hblk']; rfl), ?_⟩
  rw [← HFd.out]
  exact HR.out w' (hbw.trans hsh.bel)
end Go.Proofs.YtdanebboiekieaaGreatDoor
