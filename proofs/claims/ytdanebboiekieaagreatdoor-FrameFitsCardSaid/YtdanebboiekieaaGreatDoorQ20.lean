/- Sets by maps: set.rising. -/
import Derived.Test.YtdanebboiekieaaGreatDoorQ01
import Derived.Test.YtdanebboiekieaaGreatDoorRows
import Derived.IntWalk
import Derived.Outline
import Derived.Deep.LoopGhost
import Derived.Deep.CutBlock
import Derived.Deep.DeepCutAuto
import Derived.Maps.OwnIn
import Derived.Laws.AppendOwnNone
import Derived.Test.YtdanebboiekieaaGreatDoorQ16
import Derived.Test.YtdanebboiekieaaGreatDoorQ06
namespace Go.Proofs.YtdanebboiekieaaGreatDoor
open Go.RowKit
set_option linter.unusedSimpArgs false
set_option linter.unusedVariables false
open Go.Maps Go.WideShapes Go.MapKept Go.ChangeMaps Go.ChangeShapes

theorem own_le {w : World} {base base' size n : Nat} {e : TypeId} {v : Value} {xs : List Value} (h : w.ownsRow base e size v n xs) (hb : base' ≤ base) : w.ownsRow base' e size v n xs := by
 obtain ⟨h1, h2 | ⟨g, cap, cur, hv, hg, r⟩⟩ := h
 ·exact ⟨h1, .inl h2⟩
 ·exact ⟨h1, .inr ⟨g, cap, cur, hv, Nat.le_trans hb hg, r⟩⟩
theorem own_kind {w : World} {B : Nat} {e : TypeId} {size : Nat} {v : Value} {n : Nat} {xs : List Value} (h : w.ownsRow B e size v n xs) : ∀ g, v.ownBlock = some g → ∃ c fz, w.heap[g]? = some (.cells c e fz) := by
 intro g hg
 obtain ⟨h1, ⟨h2, _⟩ | ⟨g', cap, cur, hv, _, hh, _⟩⟩ := h
 ·rw [h2] at hg; cases hg
 ·rw [hv] at hg
  cases hg
  exact ⟨_, _, hh⟩
theorem SetR.sub {w : World} {B r : Nat} {X Lf : Int → Bool} {cnt : Nat} (h : SetR w B r X Lf cnt) : ∀ x, Lf x = true → X x = true := by
 obtain ⟨D, l, left, _, _, _, _, h5⟩ := h
 exact h5
set_option maxHeartbeats 4000000 in
theorem rising_calls (B : Nat) (X : Int → Bool) (n : Nat) (w : World) (h : SetM w B X) (hX : ∀ r, X r = true → r < (n : Int)) (R : Ending → World → Prop)
 (hR : ∀ w' v', Below w.heap.size w w' → w'.ownsRow w.heap.size 3 1 v' (rowX X n).length ((rowX X n).flatMap intCells) → R (.returned v') w') :
 Calls Tryz.prog 75 #[.map (some B)] w R := by
 have HR := Lib.hid hR
 have H := Lib.hid h
 have HX := Lib.hid hX
 clear hR h hX
 have hlt := H.out.lt
 go_enter Tryz.func75, Tryz.ntmps75
 go_wp2_with (at_range; refine wpList_rangeM rfl _ 116 rfl Tryz.underlying116 B X rfl H.out ?_)
 intro w2 cnt hr2 hg2 hz2
 have Hr2 := Lib.hid hr2
 have Hb2 := Lib.hid ((Below.refl w.heap.size w).grown hg2 (Nat.le_refl _) (fun k e => by cases e))
 clear hr2 hg2
 go_wp2_with fail
 go_loopg [3, 4] cnt (fun g s3 s4 wr => ∃ (l : List Int) (Lf : Int → Bool), Hid (SetR wr B w.heap.size X Lf g) ∧ Hid (wr.ownsRow (w.heap.size + 1) 3 1 s3 l.length (l.flatMap intCells)) ∧ Hid (l.Nodup) ∧ Hid (∀ x, x ∈ l ↔ (X x = true ∧ Lf x = false)) ∧ Hid (Below w.heap.size w wr))
 case atStart => exact ⟨[], X, Hr2, Lib.hid (World.ownsRow_nil _ _ _ _), Lib.hid List.nodup_nil, Lib.hid (fun x => by simp), Hb2⟩
 case round =>
  obtain ⟨l, Lf, HS, Ho, Hnd, Hmem, Hb⟩ := hrel
  have hz := Hb.out.size
  obtain ⟨A6, c6, hs6⟩ := own_slice Ho.out
  subst hs6
  have hl100 : l.length ≤ 100 := nodup_le 100 l Hnd.out (fun x hx => HS.out.set.range x ((Hmem.out x).1 hx).1)
  have hrl := HS.out.lt
  have Hl100 := Lib.hid hl100
  clear hl100
  go_wp2_with (at_next; refine wpList_nextM rfl _ rfl B w.heap.size X Lf gk rfl HS.out ?_ ?_)
  ·intro hdone
   have Hd := Lib.hid hdone
   clear hdone
   go_wp2_with fail
   refine sortI_calls l (.slice A6 l.length c6) (w.heap.size + 1) _ Ho.out (by have := Hl100.out; omega) _ (fun w9 hown9 hg9 => ?_)
   have he : l.mergeSort leI = rowX X n := by
    have hp := List.mergeSort_perm l leI
    refine rowX_unique ?_ fun x => ?_
    ·have hnd := hp.symm.nodup Hnd.out
     have hle := leI_sorted l
     exact (List.pairwise_and_iff.2 ⟨hle, hnd⟩).imp fun {a b} h => by omega
    ·rw [hp.mem_iff, Hmem.out, Hd.out]
     have hr := HS.out.set.range x
     have hn := HX.out x
     constructor
     ·rintro ⟨h1, _⟩
      have := hr h1
      have := hn h1
      exact ⟨⟨by omega, by omega⟩, h1⟩
     ·rintro ⟨_, h1⟩
      exact ⟨h1, rfl⟩
   rw [he] at hown9
   have hb9 : Below w.heap.size w w9 := Hb.out.grown hg9 hz (fun k e => by have := (Ho.out.lt k e).1; omega)
   have hv : (l.length : Nat) = (rowX X n).length := by rw [← he, List.length_mergeSort]
   have Hfin := Lib.hid (HR.out w9 (.slice A6 l.length c6) hb9 (own_le hown9 (by omega)))
   clear hown9 hg9 hb9 hv he
   go_wp2
   exact Hfin.out
  ·intro x w4 cnt4 hLx hx0 hx1 hs4 hlt4 hg4 hz4 hen4
   have hx := And.intro hx0 hx1
   have HS4 := Lib.hid hs4
   have Hb4 := Lib.hid (Hb.out.grown hg4 hz (fun k e => by cases e; exact Nat.le_refl _))
   have Ho4 := Lib.hid (Ho.out.kept hg4 (.inr (fun e => by have := (Ho.out.lt _ e).1; omega)))
   have Hx := Lib.hid hx
   have HLx := Lib.hid hLx
   have HXx : Hid (X x = true) := Lib.hid (HS.out.sub x hLx)
   have Hlt4 := Lib.hid hlt4
   have hgr : w.heap.size + 1 ≤ (w4.alloc (Obj.cells #[.int .i64 x] 3)).heap.size := by simp; omega
   have hw4 : w.heap.size ≤ w4.heap.size := by omega
   have Hbal := Lib.hid (Hb4.out.alloc hw4 (Obj.cells #[.int .i64 x] 3))
   have Hlo : Hid (∀ j, (Value.slice A6 l.length c6).ownBlock = some j → w.heap.size + 1 ≤ j) := Lib.hid fun j e => (Ho4.out.lt j e).1
   clear hs4 hg4 hx hLx hlt4 hz4
   go_wp2_with (at_builtin; refine app_one rfl _ _ rfl (v := .slice A6 l.length c6) rfl (Ho4.out.alloc _) w4.heap.size x rfl (heap_alloc_new _ _) Hl100.out hgr ?_)
   intro v7 w7 hown7 hg7 hat7
   have hb7 := Hbal.out.trans ((Grew.of_grown hg7).below (B := w.heap.size) (fun j hj e => by have := Hlo.out j e; omega) (by simp; omega))
   have hs7 : SetR w7 B w.heap.size X (fun z => Lf z && !decide (z = x)) cnt4 := (HS4.out.kept (row := none) (World.grownBy_alloc w4 _ _) (by simp) (by simp)).kept hg7 (fun e => ?_) (fun e => ?_)
   ·have hown8 : w7.ownsRow (w.heap.size + 1) 3 1 v7 (l ++ [x]).length ((l ++ [x]).flatMap intCells) := by simpa using hown7
    have Hown7 := Lib.hid hown8
    have Hb7 := Lib.hid hb7
    have HS7 := Lib.hid hs7
    clear hown7 hg7 hat7 hb7 hs7 hown8
    go_wp2
    go_roundg cnt4
    case measure => exact Hlt4.out
    case rel =>
     refine ⟨l ++ [x], _, HS7, Hown7, Lib.hid ?_, Lib.hid (fun z => ?_), Hb7⟩
     ·refine List.nodup_append.2 ⟨Hnd.out, by simp, fun a ha b hb e => ?_⟩
      rw [List.mem_singleton] at hb
      subst hb e
      have := (Hmem.out a).1 ha
      rw [HLx.out] at this
      exact absurd this.2 (by decide)
     ·rw [List.mem_append, List.mem_singleton, Hmem.out, Bool.and_eq_false_iff]
      have hXx := HXx.out
      by_cases e : z = x
      ·subst e
       simp [hXx]
      ·simp [e]
   ·obtain ⟨_, _, h3⟩ := HS4.out.set.obj
    obtain ⟨c, f, h4⟩ := own_kind Ho4.out B e.symm
    rw [h4] at h3
    cases h3
   ·have := Hlo.out _ e.symm
    omega
end Go.Proofs.YtdanebboiekieaaGreatDoor
