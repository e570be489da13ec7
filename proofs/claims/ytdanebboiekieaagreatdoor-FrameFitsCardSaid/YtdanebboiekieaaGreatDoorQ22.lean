/- clash.Of's closures: two registers clash; those behind an instruction with what it writes. -/
import Derived.Test.YtdanebboiekieaaGreatDoorQ01
import Derived.Test.YtdanebboiekieaaGreatDoorRows
import Derived.IntWalk
import Derived.Outline
import Derived.Deep.LoopGhost
import Derived.Deep.CutBlock
import Derived.Deep.DeepCutAuto
import Derived.Maps.OwnIn
import Derived.Test.YtdanebboiekieaaGreatDoorQ21
import Derived.Test.YtdanebboiekieaaGreatDoorQ05
namespace Go.Proofs.YtdanebboiekieaaGreatDoor
open Go.RowKit
set_option linter.unusedSimpArgs false
set_option linter.unusedVariables false
open Go.Maps Go.WideShapes Go.MapKept Go.ChangeMaps Go.ChangeShapes

theorem setBlock_self {w : World} {B : Nat} {es : Array MapEntry} {clock : Nat} (hb : w.heap[B]? = some (.map es clock)) : setBlock w B (.map es clock) = w := by
 have e1 : w.heap.setIfInBounds B (.map es clock) = w.heap := by
  apply Array.ext_getElem?
  intro i
  by_cases hi : i = B
  ·subst hi
   rw [Array.getElem?_setIfInBounds_self_of_lt (Array.getElem?_eq_some_iff.1 hb).1, hb]
  ·rw [Array.getElem?_setIfInBounds_ne (fun e => hi e.symm)]
 simp [setBlock, e1]
/-- An entry that is there: a store of nothing into it changes nothing. -/
def Ent (w : World) (B : Nat) (st : Value) : Prop := ∀ w' : World, w'.heap[B]? = w.heap[B]? → (Instr.entryStore 116 (.map (some B)) st (.agg #[])).run Tryz.prog w' = .ok () w'
set_option maxRecDepth 10000 in
/-- 'm[a], .. = .., ..': the entry made first; the store later changes nothing. -/
theorem SetM.entry2 {w : World} {B : Nat} {X : Int → Bool} (h : SetM w B X) {x : Int} (hx : 0 ≤ x ∧ x < 100) :
 ∃ (st : Value) (w1 : World), (Instr.mapEntry 116 (.map (some B)) (.int .i64 x)).run Tryz.prog w = .ok (.tuple #[.agg #[], st]) w1 ∧ SetM w1 B (setIns X x) ∧ w.mapTurned w1 B ∧ Ent w1 B st := by
 obtain ⟨w', h3, h4, h5⟩ := h.put hx
 obtain ⟨D, l, ⟨es, clock, hb, F, hs, hD⟩, hh, hd, hm, hl, hr⟩ := h
 have hk := key_int hx
 have ht := Tryz.underlying116
 obtain ⟨s1, s2, _⟩ := F.stamped
 rcases lawI.find w hk es.toList F.keys with ⟨f1, f2⟩ | ⟨j, e0, f1, f2, f3⟩
 ·have hlast : (es.push ⟨.int .i64 x, .agg #[], clock⟩).findIdx? (fun e => ((e.born : Nat) : Int) == ((clock : Nat) : Int)) = some es.size := by
   rw [WideElems.findIdx_arr]
   refine WideElems.findIdx_born (l := (es.push ⟨.int .i64 x, .agg #[], clock⟩).toList) (j := es.size) (e0 := ⟨.int .i64 x, .agg #[], clock⟩) ?_ (by simp)
   rw [Array.toList_push, List.map_append]
   exact List.nodup_append.2 ⟨s2, by simp, fun a ha c hc e => by
    obtain ⟨y, hy, rfl⟩ := List.mem_map.1 ha
    have := s1 y hy
    simp at hc
    omega⟩
  have hmod : (es.push ⟨.int .i64 x, .agg #[], clock⟩).modify es.size (fun e => { e with val := .agg #[] }) = es.push ⟨.int .i64 x, .agg #[], clock⟩ := by
   apply Array.ext'
   rw [Array.toList_modify, Array.toList_push, ← Array.length_toList, WideElems.modify_last]
  have hup : (Instr.mapUpdate 116 (.map (some B)) (.int .i64 x) (.agg #[])).run Tryz.prog w = .ok () (setBlock w B (.map (es.push ⟨.int .i64 x, .agg #[], clock⟩) (clock + 1))) := by
   simp [Instr.mapUpdate, run_underlying ht, MapKept.run_getObj_map hb, lawI.check w _ hk, f1, MapKept.run_setObj_map _ hb, Result.andThen, setBlock]
  have he : w' = setBlock w B (.map (es.push ⟨.int .i64 x, .agg #[], clock⟩) (clock + 1)) := by
   rw [h3] at hup
   injection hup
  have hb1 := heap_setBlock_same hb (Obj.map (es.push ⟨.int .i64 x, .agg #[], clock⟩) (clock + 1))
  refine ⟨goInt clock, setBlock w B (.map (es.push ⟨.int .i64 x, .agg #[], clock⟩) (clock + 1)), ?_, by rw [← he]; exact h4, ⟨es, clock, _, _, hb, rfl⟩, ?_⟩
  ·have hz : (zeroValue 117).run Tryz.prog w = .ok (.agg #[]) w := by kernel_rfl
   simp [Instr.mapEntry, run_underlying ht, MapKept.run_getObj_map hb, lawI.check w false hk, f1, hz, MapKept.run_setObj_map _ hb, Result.andThen, setBlock]
  ·intro W1 hW
   rw [hb1] at hW
   have hs1 := setBlock_self hW
   generalize es.push ⟨.int .i64 x, .agg #[], clock⟩ = es1 at hW hlast hmod hs1
   have : (Instr.entryStore 116 (.map (some B)) (goInt clock) (.agg #[])).run Tryz.prog W1 = .ok () (setBlock W1 B (.map es1 (clock + 1))) := by
    simp [Instr.entryStore, MapKept.run_getObj_map hW, asInt, asIntOf, goInt, hlast, hmod, MapKept.run_setObj_map _ hW, Result.andThen, setBlock]
   rw [this, hs1]
 ·have hj : es[j]? = some e0 := by simpa using f2
  have hv0 := unit_val F (List.mem_of_getElem? f2)
  have hsame : ∀ g : MapEntry → MapEntry, g e0 = e0 → es.modify j g = es := fun g hg => by
   apply Array.ext'
   rw [Array.toList_modify, modify_eq_set _ _ _ _ f2, hg]
   exact WideElems.set_self _ _ _ f2
  have g1 : ({ e0 with key := .int .i64 x } : MapEntry) = e0 := by rw [← f3]
  have g2 : ({ e0 with val := .agg #[] } : MapEntry) = e0 := by rw [← hv0]
  have g3 : ({ e0 with key := .int .i64 x, val := .agg #[] } : MapEntry) = e0 := by rw [← f3, ← hv0]
  have m1 := hsame (fun e => { e with key := .int .i64 x }) g1
  have m2 := hsame (fun e => { e with val := .agg #[] }) g2
  have m3 := hsame (fun e => { e with key := .int .i64 x, val := .agg #[] }) g3
  have hidx : es.findIdx? (fun e => ((e.born : Nat) : Int) == ((e0.born : Nat) : Int)) = some j := by
   rw [WideElems.findIdx_arr]
   exact WideElems.findIdx_born s2 f2
  have hself : setBlock w B (.map es clock) = w := by
   have e1 : w.heap.setIfInBounds B (.map es clock) = w.heap := by
    apply Array.ext_getElem?
    intro i
    by_cases hi : i = B
    ·subst hi
     rw [Array.getElem?_setIfInBounds_self_of_lt (Array.getElem?_eq_some_iff.1 hb).1, hb]
    ·rw [Array.getElem?_setIfInBounds_ne (fun e => hi e.symm)]
   simp [setBlock, e1]
  have hup : (Instr.mapUpdate 116 (.map (some B)) (.int .i64 x) (.agg #[])).run Tryz.prog w = .ok () (setBlock w B (.map es clock)) := by
   simp [Instr.mapUpdate, run_underlying ht, MapKept.run_getObj_map hb, lawI.check w _ hk, f1, hj, f3, lawI.stays w hk, m3, MapKept.run_setObj_map _ hb, Result.andThen, setBlock]
  have he : w' = w := by
   rw [h3] at hup
   injection hup with _ hup
   rw [hup, hself]
  refine ⟨goInt e0.born, w, ?_, by rw [← he]; exact h4, ⟨es, clock, es, clock, hb, hself.symm⟩, ?_⟩
  ·have : (Instr.mapEntry 116 (.map (some B)) (.int .i64 x)).run Tryz.prog w = .ok (.tuple #[.agg #[], goInt e0.born]) (setBlock w B (.map es clock)) := by
    clear g1 g2 g3 m2 m3 hself hup he hidx hs hD hh hm hr hl
    simp [Instr.mapEntry, run_underlying ht, MapKept.run_getObj_map hb, lawI.check w false hk, f1, hj, f3, lawI.stays w hk, m1, hv0, MapKept.run_setObj_map _ hb, Result.andThen, setBlock]
   rw [this, hself]
  ·intro W1 hW
   rw [hb] at hW
   have hs1 := setBlock_self hW
   have : (Instr.entryStore 116 (.map (some B)) (goInt e0.born) (.agg #[])).run Tryz.prog W1 = .ok () (setBlock W1 B (.map es clock)) := by
    simp [Instr.entryStore, MapKept.run_getObj_map hW, asInt, asIntOf, goInt, hidx, m2, MapKept.run_setObj_map _ hW, Result.andThen, setBlock]
   rw [this, hs1]
-- REGION
structure ROC where
 W0 : World
 vS : Value
 g : Nat
 off : Nat
 n : Nat
 c : Nat
 a : Nat
 b : Nat
 ma : Nat
 mb : Nat
 Xa : Int → Bool
 Xb : Int → Bool
 sb : Nat
 hvS : vS = .slice (some ⟨g, off, none⟩) n c
 hbox : W0.cell? ⟨sb, 0, none⟩ = some vS
 ha : a < n
 hb : b < n
 hn : n ≤ 100
 hma : W0.cell? ⟨g, off + a, none⟩ = some (.map (some ma))
 hmb : W0.cell? ⟨g, off + b, none⟩ = some (.map (some mb))
 hne : ma ≠ mb
def ROS : List Nat := [8, 9, 10, 11, 12, 13, 14, 15, 16, 17, 18, 19, 20, 21, 22, 23]
structure RO (C : ROC) (d : Nat → Bool) (val : Nat → Value) (w : World) : Prop where
 gr : Grew (fun k => k = C.ma ∨ k = C.mb) C.W0 w
 ck : CKeepA C.W0 w
 sa : SetM w C.ma (if d 12 = true then setIns C.Xa (C.b : Int) else C.Xa)
 sb : SetM w C.mb (if d 15 = true then setIns C.Xb (C.a : Int) else C.Xb)
 v8 : d 0 = true → val 8 = C.vS
 v9 : d 1 = true → val 9 = (.int .i64 (C.a : Int))
 v10 : d 2 = true → val 10 = (.pointer (some ⟨C.g, C.off + C.a, none⟩))
 v11 : d 3 = true → val 11 = (.map (some C.ma))
 v12 : d 4 = true → val 12 = (.int .i64 (C.b : Int))
 v13 : d 5 = true → val 13 = C.vS
 v14 : d 6 = true → val 14 = (.int .i64 (C.b : Int))
 v15 : d 7 = true → val 15 = (.pointer (some ⟨C.g, C.off + C.b, none⟩))
 v16 : d 8 = true → val 16 = (.map (some C.mb))
 v17 : d 9 = true → val 17 = (.int .i64 (C.a : Int))
 v18 : d 10 = true → val 18 = (.agg #[])
 v19 : d 11 = true → val 19 = (.agg #[])
 v20 : d 12 = true → ∃ st, val 20 = .tuple #[.agg #[], st] ∧ Ent w C.ma st
 v21 : d 13 = true → Ent w C.ma (val 21)
 v22 : d 15 = true → ∃ st, val 22 = .tuple #[.agg #[], st] ∧ Ent w C.mb st
 v23 : d 16 = true → Ent w C.mb (val 23)
 o13 : d 12 = false → d 13 = false
 o16 : d 15 = false → d 16 = false
theorem setVl_ne {val : Nat → Value} {k j : Nat} {v : Value} (h : j ≠ k) : setVl val k v j = val j := if_neg h
theorem Ent.keep {w w' : World} {B : Nat} {st : Value} (h : Ent w B st) (hb : w'.heap[B]? = w.heap[B]?) : Ent w' B st := fun W hW => h W (hW.trans hb)
section
variable {C : ROC} {d : Nat → Bool} {val : Nat → Value} {w : World}
theorem RO.f0 (H : RO C d val w) : RO C (don d 0) (setVl val 8 C.vS) w :=
 ⟨H.gr, H.ck, by simpa [don] using H.sa, by simpa [don] using H.sb, (fun _ => by simp [setVl]), (fun h => by have h2 := H.v9 (by simpa [don] using h); simpa [setVl] using h2), (fun h => by have h2 := H.v10 (by simpa [don] using h); simpa [setVl] using h2), (fun h => by have h2 := H.v11 (by simpa [don] using h); simpa [setVl] using h2), (fun h => by have h2 := H.v12 (by simpa [don] using h); simpa [setVl] using h2), (fun h => by have h2 := H.v13 (by simpa [don] using h); simpa [setVl] using h2), (fun h => by have h2 := H.v14 (by simpa [don] using h); simpa [setVl] using h2), (fun h => by have h2 := H.v15 (by simpa [don] using h); simpa [setVl] using h2), (fun h => by have h2 := H.v16 (by simpa [don] using h); simpa [setVl] using h2), (fun h => by have h2 := H.v17 (by simpa [don] using h); simpa [setVl] using h2), (fun h => by have h2 := H.v18 (by simpa [don] using h); simpa [setVl] using h2), (fun h => by have h2 := H.v19 (by simpa [don] using h); simpa [setVl] using h2), (fun h => by obtain ⟨st, h1, h2⟩ := H.v20 (by simpa [don] using h); exact ⟨st, by simpa [setVl] using h1, h2⟩), (fun h => by have h2 := H.v21 (by simpa [don] using h); rw [setVl_ne (by decide)]; exact h2), (fun h => by obtain ⟨st, h1, h2⟩ := H.v22 (by simpa [don] using h); exact ⟨st, by simpa [setVl] using h1, h2⟩), (fun h => by have h2 := H.v23 (by simpa [don] using h); rw [setVl_ne (by decide)]; exact h2), (fun h => by simpa [don] using H.o13 (by simpa [don] using h)), (fun h => by simpa [don] using H.o16 (by simpa [don] using h))⟩
theorem RO.f1 (H : RO C d val w) : RO C (don d 1) (setVl val 9 (.int .i64 (C.a : Int))) w :=
 ⟨H.gr, H.ck, by simpa [don] using H.sa, by simpa [don] using H.sb, (fun h => by have h2 := H.v8 (by simpa [don] using h); simpa [setVl] using h2), (fun _ => by simp [setVl]), (fun h => by have h2 := H.v10 (by simpa [don] using h); simpa [setVl] using h2), (fun h => by have h2 := H.v11 (by simpa [don] using h); simpa [setVl] using h2), (fun h => by have h2 := H.v12 (by simpa [don] using h); simpa [setVl] using h2), (fun h => by have h2 := H.v13 (by simpa [don] using h); simpa [setVl] using h2), (fun h => by have h2 := H.v14 (by simpa [don] using h); simpa [setVl] using h2), (fun h => by have h2 := H.v15 (by simpa [don] using h); simpa [setVl] using h2), (fun h => by have h2 := H.v16 (by simpa [don] using h); simpa [setVl] using h2), (fun h => by have h2 := H.v17 (by simpa [don] using h); simpa [setVl] using h2), (fun h => by have h2 := H.v18 (by simpa [don] using h); simpa [setVl] using h2), (fun h => by have h2 := H.v19 (by simpa [don] using h); simpa [setVl] using h2), (fun h => by obtain ⟨st, h1, h2⟩ := H.v20 (by simpa [don] using h); exact ⟨st, by simpa [setVl] using h1, h2⟩), (fun h => by have h2 := H.v21 (by simpa [don] using h); rw [setVl_ne (by decide)]; exact h2), (fun h => by obtain ⟨st, h1, h2⟩ := H.v22 (by simpa [don] using h); exact ⟨st, by simpa [setVl] using h1, h2⟩), (fun h => by have h2 := H.v23 (by simpa [don] using h); rw [setVl_ne (by decide)]; exact h2), (fun h => by simpa [don] using H.o13 (by simpa [don] using h)), (fun h => by simpa [don] using H.o16 (by simpa [don] using h))⟩
theorem RO.f2 (H : RO C d val w) : RO C (don d 2) (setVl val 10 (.pointer (some ⟨C.g, C.off + C.a, none⟩))) w :=
 ⟨H.gr, H.ck, by simpa [don] using H.sa, by simpa [don] using H.sb, (fun h => by have h2 := H.v8 (by simpa [don] using h); simpa [setVl] using h2), (fun h => by have h2 := H.v9 (by simpa [don] using h); simpa [setVl] using h2), (fun _ => by simp [setVl]), (fun h => by have h2 := H.v11 (by simpa [don] using h); simpa [setVl] using h2), (fun h => by have h2 := H.v12 (by simpa [don] using h); simpa [setVl] using h2), (fun h => by have h2 := H.v13 (by simpa [don] using h); simpa [setVl] using h2), (fun h => by have h2 := H.v14 (by simpa [don] using h); simpa [setVl] using h2), (fun h => by have h2 := H.v15 (by simpa [don] using h); simpa [setVl] using h2), (fun h => by have h2 := H.v16 (by simpa [don] using h); simpa [setVl] using h2), (fun h => by have h2 := H.v17 (by simpa [don] using h); simpa [setVl] using h2), (fun h => by have h2 := H.v18 (by simpa [don] using h); simpa [setVl] using h2), (fun h => by have h2 := H.v19 (by simpa [don] using h); simpa [setVl] using h2), (fun h => by obtain ⟨st, h1, h2⟩ := H.v20 (by simpa [don] using h); exact ⟨st, by simpa [setVl] using h1, h2⟩), (fun h => by have h2 := H.v21 (by simpa [don] using h); rw [setVl_ne (by decide)]; exact h2), (fun h => by obtain ⟨st, h1, h2⟩ := H.v22 (by simpa [don] using h); exact ⟨st, by simpa [setVl] using h1, h2⟩), (fun h => by have h2 := H.v23 (by simpa [don] using h); rw [setVl_ne (by decide)]; exact h2), (fun h => by simpa [don] using H.o13 (by simpa [don] using h)), (fun h => by simpa [don] using H.o16 (by simpa [don] using h))⟩
theorem RO.f3 (H : RO C d val w) : RO C (don d 3) (setVl val 11 (.map (some C.ma))) w :=
 ⟨H.gr, H.ck, by simpa [don] using H.sa, by simpa [don] using H.sb, (fun h => by have h2 := H.v8 (by simpa [don] using h); simpa [setVl] using h2), (fun h => by have h2 := H.v9 (by simpa [don] using h); simpa [setVl] using h2), (fun h => by have h2 := H.v10 (by simpa [don] using h); simpa [setVl] using h2), (fun _ => by simp [setVl]), (fun h => by have h2 := H.v12 (by simpa [don] using h); simpa [setVl] using h2), (fun h => by have h2 := H.v13 (by simpa [don] using h); simpa [setVl] using h2), (fun h => by have h2 := H.v14 (by simpa [don] using h); simpa [setVl] using h2), (fun h => by have h2 := H.v15 (by simpa [don] using h); simpa [setVl] using h2), (fun h => by have h2 := H.v16 (by simpa [don] using h); simpa [setVl] using h2), (fun h => by have h2 := H.v17 (by simpa [don] using h); simpa [setVl] using h2), (fun h => by have h2 := H.v18 (by simpa [don] using h); simpa [setVl] using h2), (fun h => by have h2 := H.v19 (by simpa [don] using h); simpa [setVl] using h2), (fun h => by obtain ⟨st, h1, h2⟩ := H.v20 (by simpa [don] using h); exact ⟨st, by simpa [setVl] using h1, h2⟩), (fun h => by have h2 := H.v21 (by simpa [don] using h); rw [setVl_ne (by decide)]; exact h2), (fun h => by obtain ⟨st, h1, h2⟩ := H.v22 (by simpa [don] using h); exact ⟨st, by simpa [setVl] using h1, h2⟩), (fun h => by have h2 := H.v23 (by simpa [don] using h); rw [setVl_ne (by decide)]; exact h2), (fun h => by simpa [don] using H.o13 (by simpa [don] using h)), (fun h => by simpa [don] using H.o16 (by simpa [don] using h))⟩
theorem RO.f4 (H : RO C d val w) : RO C (don d 4) (setVl val 12 (.int .i64 (C.b : Int))) w :=
 ⟨H.gr, H.ck, by simpa [don] using H.sa, by simpa [don] using H.sb, (fun h => by have h2 := H.v8 (by simpa [don] using h); simpa [setVl] using h2), (fun h => by have h2 := H.v9 (by simpa [don] using h); simpa [setVl] using h2), (fun h => by have h2 := H.v10 (by simpa [don] using h); simpa [setVl] using h2), (fun h => by have h2 := H.v11 (by simpa [don] using h); simpa [setVl] using h2), (fun _ => by simp [setVl]), (fun h => by have h2 := H.v13 (by simpa [don] using h); simpa [setVl] using h2), (fun h => by have h2 := H.v14 (by simpa [don] using h); simpa [setVl] using h2), (fun h => by have h2 := H.v15 (by simpa [don] using h); simpa [setVl] using h2), (fun h => by have h2 := H.v16 (by simpa [don] using h); simpa [setVl] using h2), (fun h => by have h2 := H.v17 (by simpa [don] using h); simpa [setVl] using h2), (fun h => by have h2 := H.v18 (by simpa [don] using h); simpa [setVl] using h2), (fun h => by have h2 := H.v19 (by simpa [don] using h); simpa [setVl] using h2), (fun h => by obtain ⟨st, h1, h2⟩ := H.v20 (by simpa [don] using h); exact ⟨st, by simpa [setVl] using h1, h2⟩), (fun h => by have h2 := H.v21 (by simpa [don] using h); rw [setVl_ne (by decide)]; exact h2), (fun h => by obtain ⟨st, h1, h2⟩ := H.v22 (by simpa [don] using h); exact ⟨st, by simpa [setVl] using h1, h2⟩), (fun h => by have h2 := H.v23 (by simpa [don] using h); rw [setVl_ne (by decide)]; exact h2), (fun h => by simpa [don] using H.o13 (by simpa [don] using h)), (fun h => by simpa [don] using H.o16 (by simpa [don] using h))⟩
theorem RO.f5 (H : RO C d val w) : RO C (don d 5) (setVl val 13 C.vS) w :=
 ⟨H.gr, H.ck, by simpa [don] using H.sa, by simpa [don] using H.sb, (fun h => by have h2 := H.v8 (by simpa [don] using h); simpa [setVl] using h2), (fun h => by have h2 := H.v9 (by simpa [don] using h); simpa [setVl] using h2), (fun h => by have h2 := H.v10 (by simpa [don] using h); simpa [setVl] using h2), (fun h => by have h2 := H.v11 (by simpa [don] using h); simpa [setVl] using h2), (fun h => by have h2 := H.v12 (by simpa [don] using h); simpa [setVl] using h2), (fun _ => by simp [setVl]), (fun h => by have h2 := H.v14 (by simpa [don] using h); simpa [setVl] using h2), (fun h => by have h2 := H.v15 (by simpa [don] using h); simpa [setVl] using h2), (fun h => by have h2 := H.v16 (by simpa [don] using h); simpa [setVl] using h2), (fun h => by have h2 := H.v17 (by simpa [don] using h); simpa [setVl] using h2), (fun h => by have h2 := H.v18 (by simpa [don] using h); simpa [setVl] using h2), (fun h => by have h2 := H.v19 (by simpa [don] using h); simpa [setVl] using h2), (fun h => by obtain ⟨st, h1, h2⟩ := H.v20 (by simpa [don] using h); exact ⟨st, by simpa [setVl] using h1, h2⟩), (fun h => by have h2 := H.v21 (by simpa [don] using h); rw [setVl_ne (by decide)]; exact h2), (fun h => by obtain ⟨st, h1, h2⟩ := H.v22 (by simpa [don] using h); exact ⟨st, by simpa [setVl] using h1, h2⟩), (fun h => by have h2 := H.v23 (by simpa [don] using h); rw [setVl_ne (by decide)]; exact h2), (fun h => by simpa [don] using H.o13 (by simpa [don] using h)), (fun h => by simpa [don] using H.o16 (by simpa [don] using h))⟩
theorem RO.f6 (H : RO C d val w) : RO C (don d 6) (setVl val 14 (.int .i64 (C.b : Int))) w :=
 ⟨H.gr, H.ck, by simpa [don] using H.sa, by simpa [don] using H.sb, (fun h => by have h2 := H.v8 (by simpa [don] using h); simpa [setVl] using h2), (fun h => by have h2 := H.v9 (by simpa [don] using h); simpa [setVl] using h2), (fun h => by have h2 := H.v10 (by simpa [don] using h); simpa [setVl] using h2), (fun h => by have h2 := H.v11 (by simpa [don] using h); simpa [setVl] using h2), (fun h => by have h2 := H.v12 (by simpa [don] using h); simpa [setVl] using h2), (fun h => by have h2 := H.v13 (by simpa [don] using h); simpa [setVl] using h2), (fun _ => by simp [setVl]), (fun h => by have h2 := H.v15 (by simpa [don] using h); simpa [setVl] using h2), (fun h => by have h2 := H.v16 (by simpa [don] using h); simpa [setVl] using h2), (fun h => by have h2 := H.v17 (by simpa [don] using h); simpa [setVl] using h2), (fun h => by have h2 := H.v18 (by simpa [don] using h); simpa [setVl] using h2), (fun h => by have h2 := H.v19 (by simpa [don] using h); simpa [setVl] using h2), (fun h => by obtain ⟨st, h1, h2⟩ := H.v20 (by simpa [don] using h); exact ⟨st, by simpa [setVl] using h1, h2⟩), (fun h => by have h2 := H.v21 (by simpa [don] using h); rw [setVl_ne (by decide)]; exact h2), (fun h => by obtain ⟨st, h1, h2⟩ := H.v22 (by simpa [don] using h); exact ⟨st, by simpa [setVl] using h1, h2⟩), (fun h => by have h2 := H.v23 (by simpa [don] using h); rw [setVl_ne (by decide)]; exact h2), (fun h => by simpa [don] using H.o13 (by simpa [don] using h)), (fun h => by simpa [don] using H.o16 (by simpa [don] using h))⟩
theorem RO.f7 (H : RO C d val w) : RO C (don d 7) (setVl val 15 (.pointer (some ⟨C.g, C.off + C.b, none⟩))) w :=
 ⟨H.gr, H.ck, by simpa [don] using H.sa, by simpa [don] using H.sb, (fun h => by have h2 := H.v8 (by simpa [don] using h); simpa [setVl] using h2), (fun h => by have h2 := H.v9 (by simpa [don] using h); simpa [setVl] using h2), (fun h => by have h2 := H.v10 (by simpa [don] using h); simpa [setVl] using h2), (fun h => by have h2 := H.v11 (by simpa [don] using h); simpa [setVl] using h2), (fun h => by have h2 := H.v12 (by simpa [don] using h); simpa [setVl] using h2), (fun h => by have h2 := H.v13 (by simpa [don] using h); simpa [setVl] using h2), (fun h => by have h2 := H.v14 (by simpa [don] using h); simpa [setVl] using h2), (fun _ => by simp [setVl]), (fun h => by have h2 := H.v16 (by simpa [don] using h); simpa [setVl] using h2), (fun h => by have h2 := H.v17 (by simpa [don] using h); simpa [setVl] using h2), (fun h => by have h2 := H.v18 (by simpa [don] using h); simpa [setVl] using h2), (fun h => by have h2 := H.v19 (by simpa [don] using h); simpa [setVl] using h2), (fun h => by obtain ⟨st, h1, h2⟩ := H.v20 (by simpa [don] using h); exact ⟨st, by simpa [setVl] using h1, h2⟩), (fun h => by have h2 := H.v21 (by simpa [don] using h); rw [setVl_ne (by decide)]; exact h2), (fun h => by obtain ⟨st, h1, h2⟩ := H.v22 (by simpa [don] using h); exact ⟨st, by simpa [setVl] using h1, h2⟩), (fun h => by have h2 := H.v23 (by simpa [don] using h); rw [setVl_ne (by decide)]; exact h2), (fun h => by simpa [don] using H.o13 (by simpa [don] using h)), (fun h => by simpa [don] using H.o16 (by simpa [don] using h))⟩
theorem RO.f8 (H : RO C d val w) : RO C (don d 8) (setVl val 16 (.map (some C.mb))) w :=
 ⟨H.gr, H.ck, by simpa [don] using H.sa, by simpa [don] using H.sb, (fun h => by have h2 := H.v8 (by simpa [don] using h); simpa [setVl] using h2), (fun h => by have h2 := H.v9 (by simpa [don] using h); simpa [setVl] using h2), (fun h => by have h2 := H.v10 (by simpa [don] using h); simpa [setVl] using h2), (fun h => by have h2 := H.v11 (by simpa [don] using h); simpa [setVl] using h2), (fun h => by have h2 := H.v12 (by simpa [don] using h); simpa [setVl] using h2), (fun h => by have h2 := H.v13 (by simpa [don] using h); simpa [setVl] using h2), (fun h => by have h2 := H.v14 (by simpa [don] using h); simpa [setVl] using h2), (fun h => by have h2 := H.v15 (by simpa [don] using h); simpa [setVl] using h2), (fun _ => by simp [setVl]), (fun h => by have h2 := H.v17 (by simpa [don] using h); simpa [setVl] using h2), (fun h => by have h2 := H.v18 (by simpa [don] using h); simpa [setVl] using h2), (fun h => by have h2 := H.v19 (by simpa [don] using h); simpa [setVl] using h2), (fun h => by obtain ⟨st, h1, h2⟩ := H.v20 (by simpa [don] using h); exact ⟨st, by simpa [setVl] using h1, h2⟩), (fun h => by have h2 := H.v21 (by simpa [don] using h); rw [setVl_ne (by decide)]; exact h2), (fun h => by obtain ⟨st, h1, h2⟩ := H.v22 (by simpa [don] using h); exact ⟨st, by simpa [setVl] using h1, h2⟩), (fun h => by have h2 := H.v23 (by simpa [don] using h); rw [setVl_ne (by decide)]; exact h2), (fun h => by simpa [don] using H.o13 (by simpa [don] using h)), (fun h => by simpa [don] using H.o16 (by simpa [don] using h))⟩
theorem RO.f9 (H : RO C d val w) : RO C (don d 9) (setVl val 17 (.int .i64 (C.a : Int))) w :=
 ⟨H.gr, H.ck, by simpa [don] using H.sa, by simpa [don] using H.sb, (fun h => by have h2 := H.v8 (by simpa [don] using h); simpa [setVl] using h2), (fun h => by have h2 := H.v9 (by simpa [don] using h); simpa [setVl] using h2), (fun h => by have h2 := H.v10 (by simpa [don] using h); simpa [setVl] using h2), (fun h => by have h2 := H.v11 (by simpa [don] using h); simpa [setVl] using h2), (fun h => by have h2 := H.v12 (by simpa [don] using h); simpa [setVl] using h2), (fun h => by have h2 := H.v13 (by simpa [don] using h); simpa [setVl] using h2), (fun h => by have h2 := H.v14 (by simpa [don] using h); simpa [setVl] using h2), (fun h => by have h2 := H.v15 (by simpa [don] using h); simpa [setVl] using h2), (fun h => by have h2 := H.v16 (by simpa [don] using h); simpa [setVl] using h2), (fun _ => by simp [setVl]), (fun h => by have h2 := H.v18 (by simpa [don] using h); simpa [setVl] using h2), (fun h => by have h2 := H.v19 (by simpa [don] using h); simpa [setVl] using h2), (fun h => by obtain ⟨st, h1, h2⟩ := H.v20 (by simpa [don] using h); exact ⟨st, by simpa [setVl] using h1, h2⟩), (fun h => by have h2 := H.v21 (by simpa [don] using h); rw [setVl_ne (by decide)]; exact h2), (fun h => by obtain ⟨st, h1, h2⟩ := H.v22 (by simpa [don] using h); exact ⟨st, by simpa [setVl] using h1, h2⟩), (fun h => by have h2 := H.v23 (by simpa [don] using h); rw [setVl_ne (by decide)]; exact h2), (fun h => by simpa [don] using H.o13 (by simpa [don] using h)), (fun h => by simpa [don] using H.o16 (by simpa [don] using h))⟩
theorem RO.f10 (H : RO C d val w) : RO C (don d 10) (setVl val 18 (.agg #[])) w :=
 ⟨H.gr, H.ck, by simpa [don] using H.sa, by simpa [don] using H.sb, (fun h => by have h2 := H.v8 (by simpa [don] using h); simpa [setVl] using h2), (fun h => by have h2 := H.v9 (by simpa [don] using h); simpa [setVl] using h2), (fun h => by have h2 := H.v10 (by simpa [don] using h); simpa [setVl] using h2), (fun h => by have h2 := H.v11 (by simpa [don] using h); simpa [setVl] using h2), (fun h => by have h2 := H.v12 (by simpa [don] using h); simpa [setVl] using h2), (fun h => by have h2 := H.v13 (by simpa [don] using h); simpa [setVl] using h2), (fun h => by have h2 := H.v14 (by simpa [don] using h); simpa [setVl] using h2), (fun h => by have h2 := H.v15 (by simpa [don] using h); simpa [setVl] using h2), (fun h => by have h2 := H.v16 (by simpa [don] using h); simpa [setVl] using h2), (fun h => by have h2 := H.v17 (by simpa [don] using h); simpa [setVl] using h2), (fun _ => by simp [setVl]), (fun h => by have h2 := H.v19 (by simpa [don] using h); simpa [setVl] using h2), (fun h => by obtain ⟨st, h1, h2⟩ := H.v20 (by simpa [don] using h); exact ⟨st, by simpa [setVl] using h1, h2⟩), (fun h => by have h2 := H.v21 (by simpa [don] using h); rw [setVl_ne (by decide)]; exact h2), (fun h => by obtain ⟨st, h1, h2⟩ := H.v22 (by simpa [don] using h); exact ⟨st, by simpa [setVl] using h1, h2⟩), (fun h => by have h2 := H.v23 (by simpa [don] using h); rw [setVl_ne (by decide)]; exact h2), (fun h => by simpa [don] using H.o13 (by simpa [don] using h)), (fun h => by simpa [don] using H.o16 (by simpa [don] using h))⟩
theorem RO.f11 (H : RO C d val w) : RO C (don d 11) (setVl val 19 (.agg #[])) w :=
 ⟨H.gr, H.ck, by simpa [don] using H.sa, by simpa [don] using H.sb, (fun h => by have h2 := H.v8 (by simpa [don] using h); simpa [setVl] using h2), (fun h => by have h2 := H.v9 (by simpa [don] using h); simpa [setVl] using h2), (fun h => by have h2 := H.v10 (by simpa [don] using h); simpa [setVl] using h2), (fun h => by have h2 := H.v11 (by simpa [don] using h); simpa [setVl] using h2), (fun h => by have h2 := H.v12 (by simpa [don] using h); simpa [setVl] using h2), (fun h => by have h2 := H.v13 (by simpa [don] using h); simpa [setVl] using h2), (fun h => by have h2 := H.v14 (by simpa [don] using h); simpa [setVl] using h2), (fun h => by have h2 := H.v15 (by simpa [don] using h); simpa [setVl] using h2), (fun h => by have h2 := H.v16 (by simpa [don] using h); simpa [setVl] using h2), (fun h => by have h2 := H.v17 (by simpa [don] using h); simpa [setVl] using h2), (fun h => by have h2 := H.v18 (by simpa [don] using h); simpa [setVl] using h2), (fun _ => by simp [setVl]), (fun h => by obtain ⟨st, h1, h2⟩ := H.v20 (by simpa [don] using h); exact ⟨st, by simpa [setVl] using h1, h2⟩), (fun h => by have h2 := H.v21 (by simpa [don] using h); rw [setVl_ne (by decide)]; exact h2), (fun h => by obtain ⟨st, h1, h2⟩ := H.v22 (by simpa [don] using h); exact ⟨st, by simpa [setVl] using h1, h2⟩), (fun h => by have h2 := H.v23 (by simpa [don] using h); rw [setVl_ne (by decide)]; exact h2), (fun h => by simpa [don] using H.o13 (by simpa [don] using h)), (fun h => by simpa [don] using H.o16 (by simpa [don] using h))⟩
theorem RO.f12 (H : RO C d val w) (hd : d 12 = false) {w1 : World} {st : Value} (h1 : SetM w1 C.ma (setIns C.Xa (C.b : Int))) (h2 : w.mapTurned w1 C.ma) (h3 : Ent w1 C.ma st) : RO C (don d 12) (setVl val 20 (.tuple #[.agg #[], st])) w1 := by
 have h0 : d 13 = false := H.o13 hd
 have hg := h2.grown
 have hne := C.hne
 have hkpb : w1.heap[C.mb]? = w.heap[C.mb]? := hg.block _ H.sb.lt (fun e => by have := Option.some.inj e; omega)
 have hck : CKeepA w w1 := CKeepA.of_grown hg (fun k e => by cases e; obtain ⟨es, cl, ho⟩ := H.sa.obj; exact ⟨_, ho, rfl⟩)
 refine ⟨Grew.trans H.gr ⟨hg.os, hg.tape, hg.output, hg.size, fun k hk hx => hg.block k hk (fun e => hx (.inl (Option.some.inj e)))⟩ (fun _ _ h => h), H.ck.trans hck, by simp only [don, if_true]; exact h1, by have h4 := H.sb.block hkpb; simpa [don] using h4, (fun h => by have h2 := H.v8 (by simpa [don] using h); simpa [setVl] using h2), (fun h => by have h2 := H.v9 (by simpa [don] using h); simpa [setVl] using h2), (fun h => by have h2 := H.v10 (by simpa [don] using h); simpa [setVl] using h2), (fun h => by have h2 := H.v11 (by simpa [don] using h); simpa [setVl] using h2), (fun h => by have h2 := H.v12 (by simpa [don] using h); simpa [setVl] using h2), (fun h => by have h2 := H.v13 (by simpa [don] using h); simpa [setVl] using h2), (fun h => by have h2 := H.v14 (by simpa [don] using h); simpa [setVl] using h2), (fun h => by have h2 := H.v15 (by simpa [don] using h); simpa [setVl] using h2), (fun h => by have h2 := H.v16 (by simpa [don] using h); simpa [setVl] using h2), (fun h => by have h2 := H.v17 (by simpa [don] using h); simpa [setVl] using h2), (fun h => by have h2 := H.v18 (by simpa [don] using h); simpa [setVl] using h2), (fun h => by have h2 := H.v19 (by simpa [don] using h); simpa [setVl] using h2), (fun _ => ⟨st, by simp [setVl], h3⟩), (fun h => absurd (show d 13 = true by simpa [don] using h) (by rw [h0]; decide)), (fun h => by obtain ⟨st, h1, h2⟩ := H.v22 (by simpa [don] using h); exact ⟨st, by simpa [setVl] using h1, h2.keep (hkpb)⟩), (fun h => by have h2 := H.v23 (by simpa [don] using h); rw [setVl_ne (by decide)]; exact h2.keep (hkpb)), (fun h => by simp [don] at h), (fun h => by simpa [don] using H.o16 (by simpa [don] using h))⟩
theorem RO.f15 (H : RO C d val w) (hd : d 15 = false) {w1 : World} {st : Value} (h1 : SetM w1 C.mb (setIns C.Xb (C.a : Int))) (h2 : w.mapTurned w1 C.mb) (h3 : Ent w1 C.mb st) : RO C (don d 15) (setVl val 22 (.tuple #[.agg #[], st])) w1 := by
 have h0 : d 16 = false := H.o16 hd
 have hg := h2.grown
 have hne := C.hne
 have hkpa : w1.heap[C.ma]? = w.heap[C.ma]? := hg.block _ H.sa.lt (fun e => by have := Option.some.inj e; omega)
 have hck : CKeepA w w1 := CKeepA.of_grown hg (fun k e => by cases e; obtain ⟨es, cl, ho⟩ := H.sb.obj; exact ⟨_, ho, rfl⟩)
 refine ⟨Grew.trans H.gr ⟨hg.os, hg.tape, hg.output, hg.size, fun k hk hx => hg.block k hk (fun e => hx (.inr (Option.some.inj e)))⟩ (fun _ _ h => h), H.ck.trans hck, by have h4 := H.sa.block hkpa; simpa [don] using h4, by simp only [don, if_true]; exact h1, (fun h => by have h2 := H.v8 (by simpa [don] using h); simpa [setVl] using h2), (fun h => by have h2 := H.v9 (by simpa [don] using h); simpa [setVl] using h2), (fun h => by have h2 := H.v10 (by simpa [don] using h); simpa [setVl] using h2), (fun h => by have h2 := H.v11 (by simpa [don] using h); simpa [setVl] using h2), (fun h => by have h2 := H.v12 (by simpa [don] using h); simpa [setVl] using h2), (fun h => by have h2 := H.v13 (by simpa [don] using h); simpa [setVl] using h2), (fun h => by have h2 := H.v14 (by simpa [don] using h); simpa [setVl] using h2), (fun h => by have h2 := H.v15 (by simpa [don] using h); simpa [setVl] using h2), (fun h => by have h2 := H.v16 (by simpa [don] using h); simpa [setVl] using h2), (fun h => by have h2 := H.v17 (by simpa [don] using h); simpa [setVl] using h2), (fun h => by have h2 := H.v18 (by simpa [don] using h); simpa [setVl] using h2), (fun h => by have h2 := H.v19 (by simpa [don] using h); simpa [setVl] using h2), (fun h => by obtain ⟨st, h1, h2⟩ := H.v20 (by simpa [don] using h); exact ⟨st, by simpa [setVl] using h1, h2.keep (hkpa)⟩), (fun h => by have h2 := H.v21 (by simpa [don] using h); rw [setVl_ne (by decide)]; exact h2.keep (hkpa)), (fun _ => ⟨st, by simp [setVl], h3⟩), (fun h => absurd (show d 16 = true by simpa [don] using h) (by rw [h0]; decide)), (fun h => by simpa [don] using H.o13 (by simpa [don] using h)), (fun h => by simp [don] at h)⟩
theorem RO.f13 (H : RO C d val w) {st : Value} (hd1 : d 12 = true) (h3 : Ent w C.ma st) : RO C (don d 13) (setVl val 21 st) w :=
 ⟨H.gr, H.ck, by simpa [don] using H.sa, by simpa [don] using H.sb, (fun h => by have h2 := H.v8 (by simpa [don] using h); simpa [setVl] using h2), (fun h => by have h2 := H.v9 (by simpa [don] using h); simpa [setVl] using h2), (fun h => by have h2 := H.v10 (by simpa [don] using h); simpa [setVl] using h2), (fun h => by have h2 := H.v11 (by simpa [don] using h); simpa [setVl] using h2), (fun h => by have h2 := H.v12 (by simpa [don] using h); simpa [setVl] using h2), (fun h => by have h2 := H.v13 (by simpa [don] using h); simpa [setVl] using h2), (fun h => by have h2 := H.v14 (by simpa [don] using h); simpa [setVl] using h2), (fun h => by have h2 := H.v15 (by simpa [don] using h); simpa [setVl] using h2), (fun h => by have h2 := H.v16 (by simpa [don] using h); simpa [setVl] using h2), (fun h => by have h2 := H.v17 (by simpa [don] using h); simpa [setVl] using h2), (fun h => by have h2 := H.v18 (by simpa [don] using h); simpa [setVl] using h2), (fun h => by have h2 := H.v19 (by simpa [don] using h); simpa [setVl] using h2), (fun h => by obtain ⟨st, h1, h2⟩ := H.v20 (by simpa [don] using h); exact ⟨st, by simpa [setVl] using h1, h2⟩), (fun _ => by simpa [setVl] using h3), (fun h => by obtain ⟨st, h1, h2⟩ := H.v22 (by simpa [don] using h); exact ⟨st, by simpa [setVl] using h1, h2⟩), (fun h => by have h2 := H.v23 (by simpa [don] using h); rw [setVl_ne (by decide)]; exact h2), (fun h => absurd (show d 12 = false by simpa [don] using h) (by rw [hd1]; decide)), (fun h => by simpa [don] using H.o16 (by simpa [don] using h))⟩
theorem RO.f16 (H : RO C d val w) {st : Value} (hd1 : d 15 = true) (h3 : Ent w C.mb st) : RO C (don d 16) (setVl val 23 st) w :=
 ⟨H.gr, H.ck, by simpa [don] using H.sa, by simpa [don] using H.sb, (fun h => by have h2 := H.v8 (by simpa [don] using h); simpa [setVl] using h2), (fun h => by have h2 := H.v9 (by simpa [don] using h); simpa [setVl] using h2), (fun h => by have h2 := H.v10 (by simpa [don] using h); simpa [setVl] using h2), (fun h => by have h2 := H.v11 (by simpa [don] using h); simpa [setVl] using h2), (fun h => by have h2 := H.v12 (by simpa [don] using h); simpa [setVl] using h2), (fun h => by have h2 := H.v13 (by simpa [don] using h); simpa [setVl] using h2), (fun h => by have h2 := H.v14 (by simpa [don] using h); simpa [setVl] using h2), (fun h => by have h2 := H.v15 (by simpa [don] using h); simpa [setVl] using h2), (fun h => by have h2 := H.v16 (by simpa [don] using h); simpa [setVl] using h2), (fun h => by have h2 := H.v17 (by simpa [don] using h); simpa [setVl] using h2), (fun h => by have h2 := H.v18 (by simpa [don] using h); simpa [setVl] using h2), (fun h => by have h2 := H.v19 (by simpa [don] using h); simpa [setVl] using h2), (fun h => by obtain ⟨st, h1, h2⟩ := H.v20 (by simpa [don] using h); exact ⟨st, by simpa [setVl] using h1, h2⟩), (fun h => by have h2 := H.v21 (by simpa [don] using h); rw [setVl_ne (by decide)]; exact h2), (fun h => by obtain ⟨st, h1, h2⟩ := H.v22 (by simpa [don] using h); exact ⟨st, by simpa [setVl] using h1, h2⟩), (fun _ => by simpa [setVl] using h3), (fun h => by simpa [don] using H.o13 (by simpa [don] using h)), (fun h => absurd (show d 15 = false by simpa [don] using h) (by rw [hd1]; decide))⟩
theorem RO.f14 (H : RO C d val w) : RO C (don d 14) val w :=
 ⟨H.gr, H.ck, by simpa [don] using H.sa, by simpa [don] using H.sb, (fun h => by have h2 := H.v8 (by simpa [don] using h); exact h2), (fun h => by have h2 := H.v9 (by simpa [don] using h); exact h2), (fun h => by have h2 := H.v10 (by simpa [don] using h); exact h2), (fun h => by have h2 := H.v11 (by simpa [don] using h); exact h2), (fun h => by have h2 := H.v12 (by simpa [don] using h); exact h2), (fun h => by have h2 := H.v13 (by simpa [don] using h); exact h2), (fun h => by have h2 := H.v14 (by simpa [don] using h); exact h2), (fun h => by have h2 := H.v15 (by simpa [don] using h); exact h2), (fun h => by have h2 := H.v16 (by simpa [don] using h); exact h2), (fun h => by have h2 := H.v17 (by simpa [don] using h); exact h2), (fun h => by have h2 := H.v18 (by simpa [don] using h); exact h2), (fun h => by have h2 := H.v19 (by simpa [don] using h); exact h2), (fun h => by obtain ⟨st, h1, h2⟩ := H.v20 (by simpa [don] using h); exact ⟨st, h1, h2⟩), (fun h => by have h2 := H.v21 (by simpa [don] using h); exact h2), (fun h => by obtain ⟨st, h1, h2⟩ := H.v22 (by simpa [don] using h); exact ⟨st, h1, h2⟩), (fun h => by have h2 := H.v23 (by simpa [don] using h); exact h2), (fun h => by simpa [don] using H.o13 (by simpa [don] using h)), (fun h => by simpa [don] using H.o16 (by simpa [don] using h))⟩
theorem RO.f17 (H : RO C d val w) : RO C (don d 17) val w :=
 ⟨H.gr, H.ck, by simpa [don] using H.sa, by simpa [don] using H.sb, (fun h => by have h2 := H.v8 (by simpa [don] using h); exact h2), (fun h => by have h2 := H.v9 (by simpa [don] using h); exact h2), (fun h => by have h2 := H.v10 (by simpa [don] using h); exact h2), (fun h => by have h2 := H.v11 (by simpa [don] using h); exact h2), (fun h => by have h2 := H.v12 (by simpa [don] using h); exact h2), (fun h => by have h2 := H.v13 (by simpa [don] using h); exact h2), (fun h => by have h2 := H.v14 (by simpa [don] using h); exact h2), (fun h => by have h2 := H.v15 (by simpa [don] using h); exact h2), (fun h => by have h2 := H.v16 (by simpa [don] using h); exact h2), (fun h => by have h2 := H.v17 (by simpa [don] using h); exact h2), (fun h => by have h2 := H.v18 (by simpa [don] using h); exact h2), (fun h => by have h2 := H.v19 (by simpa [don] using h); exact h2), (fun h => by obtain ⟨st, h1, h2⟩ := H.v20 (by simpa [don] using h); exact ⟨st, h1, h2⟩), (fun h => by have h2 := H.v21 (by simpa [don] using h); exact h2), (fun h => by obtain ⟨st, h1, h2⟩ := H.v22 (by simpa [don] using h); exact ⟨st, h1, h2⟩), (fun h => by have h2 := H.v23 (by simpa [don] using h); exact h2), (fun h => by simpa [don] using H.o13 (by simpa [don] using h)), (fun h => by simpa [don] using H.o16 (by simpa [don] using h))⟩
end
section
variable {C : ROC} {d : Nat → Bool} {a0 a : Act} {w : World} {Q : Exit → Act → World → Prop} {o : Oper}
theorem RO.q0 (H : RO C d (vals a) w) (hag : Ag ROS a0 a) (h2 : vals a0 2 = .pointer (some ⟨C.sb, 0, none⟩)) (hop : o.op = .load 114 (.tmp 2)) (hdst : o.dst = some 8) : o.wp Tryz.prog a w (Aft ROS a0 (RO C) d 0) Q := by
 have e : a.eval (.tmp 2) = .pointer (some ⟨C.sb, 0, none⟩) := (hag.old (by simp [ROS])).trans h2
 have c0 := H.ck.cell C.hbox
 have hv := C.hvS
 rw [hv] at c0
 refine reg_value (v := C.vS) (w' := w) hag hdst (by simp [ROS]) (by
  simp only [execOp, hop, e, hv]
  simp [go_sem, c0]) H.f0
theorem RO.q5 (H : RO C d (vals a) w) (hag : Ag ROS a0 a) (h2 : vals a0 2 = .pointer (some ⟨C.sb, 0, none⟩)) (hop : o.op = .load 114 (.tmp 2)) (hdst : o.dst = some 13) : o.wp Tryz.prog a w (Aft ROS a0 (RO C) d 5) Q := by
 have e : a.eval (.tmp 2) = .pointer (some ⟨C.sb, 0, none⟩) := (hag.old (by simp [ROS])).trans h2
 have c0 := H.ck.cell C.hbox
 have hv := C.hvS
 rw [hv] at c0
 refine reg_value (v := C.vS) (w' := w) hag hdst (by simp [ROS]) (by
  simp only [execOp, hop, e, hv]
  simp [go_sem, c0]) H.f5
theorem RO.q1 (H : RO C d (vals a) w) (hag : Ag ROS a0 a) (h2 : vals a0 0 = .int .i64 (C.a : Int)) (hop : o.op = .move (.tmp 0)) (hdst : o.dst = some 9) : o.wp Tryz.prog a w (Aft ROS a0 (RO C) d 1) Q := by
 have e : a.eval (.tmp 0) = .int .i64 (C.a : Int) := (hag.old (by simp [ROS])).trans h2
 refine reg_value (w' := w) hag hdst (by simp [ROS]) (by
  simp only [execOp, hop, e]
  rfl) H.f1
theorem RO.q4 (H : RO C d (vals a) w) (hag : Ag ROS a0 a) (h2 : vals a0 1 = .int .i64 (C.b : Int)) (hop : o.op = .move (.tmp 1)) (hdst : o.dst = some 12) : o.wp Tryz.prog a w (Aft ROS a0 (RO C) d 4) Q := by
 have e : a.eval (.tmp 1) = .int .i64 (C.b : Int) := (hag.old (by simp [ROS])).trans h2
 refine reg_value (w' := w) hag hdst (by simp [ROS]) (by
  simp only [execOp, hop, e]
  rfl) H.f4
theorem RO.q6 (H : RO C d (vals a) w) (hag : Ag ROS a0 a) (h2 : vals a0 1 = .int .i64 (C.b : Int)) (hop : o.op = .move (.tmp 1)) (hdst : o.dst = some 14) : o.wp Tryz.prog a w (Aft ROS a0 (RO C) d 6) Q := by
 have e : a.eval (.tmp 1) = .int .i64 (C.b : Int) := (hag.old (by simp [ROS])).trans h2
 refine reg_value (w' := w) hag hdst (by simp [ROS]) (by
  simp only [execOp, hop, e]
  rfl) H.f6
theorem RO.q9 (H : RO C d (vals a) w) (hag : Ag ROS a0 a) (h2 : vals a0 0 = .int .i64 (C.a : Int)) (hop : o.op = .move (.tmp 0)) (hdst : o.dst = some 17) : o.wp Tryz.prog a w (Aft ROS a0 (RO C) d 9) Q := by
 have e : a.eval (.tmp 0) = .int .i64 (C.a : Int) := (hag.old (by simp [ROS])).trans h2
 refine reg_value (w' := w) hag hdst (by simp [ROS]) (by
  simp only [execOp, hop, e]
  rfl) H.f9
theorem RO.q2 (H : RO C d (vals a) w) (hag : Ag ROS a0 a) (h1 : d 0 = true) (h2 : d 1 = true) (hop : o.op = .indexAddr 114 (.tmp 8) (.tmp 9)) (hdst : o.dst = some 10) : o.wp Tryz.prog a w (Aft ROS a0 (RO C) d 2) Q := by
 have e1 : a.eval (.tmp 8) = _ := H.v8 h1
 have e2 : a.eval (.tmp 9) = _ := H.v9 h2
 have hl := C.ha
 have k1 : (0 : Int) ≤ (C.a : Int) := Int.natCast_nonneg _
 have k2 : (C.a : Int) < (C.n : Int) := by omega
 rw [C.hvS] at e1
 refine reg_value (v := .pointer (some ⟨C.g, C.off + C.a, none⟩)) (w' := w) hag hdst (by simp [ROS]) (by
  simp only [execOp, hop, e1, e2]
  simp [go_sem, k1, k2]) H.f2
theorem RO.q7 (H : RO C d (vals a) w) (hag : Ag ROS a0 a) (h1 : d 5 = true) (h2 : d 6 = true) (hop : o.op = .indexAddr 114 (.tmp 13) (.tmp 14)) (hdst : o.dst = some 15) : o.wp Tryz.prog a w (Aft ROS a0 (RO C) d 7) Q := by
 have e1 : a.eval (.tmp 13) = _ := H.v13 h1
 have e2 : a.eval (.tmp 14) = _ := H.v14 h2
 have hl := C.hb
 have k1 : (0 : Int) ≤ (C.b : Int) := Int.natCast_nonneg _
 have k2 : (C.b : Int) < (C.n : Int) := by omega
 rw [C.hvS] at e1
 refine reg_value (v := .pointer (some ⟨C.g, C.off + C.b, none⟩)) (w' := w) hag hdst (by simp [ROS]) (by
  simp only [execOp, hop, e1, e2]
  simp [go_sem, k1, k2]) H.f7
theorem RO.q3 (H : RO C d (vals a) w) (hag : Ag ROS a0 a) (h1 : d 2 = true) (hop : o.op = .load 116 (.tmp 10)) (hdst : o.dst = some 11) : o.wp Tryz.prog a w (Aft ROS a0 (RO C) d 3) Q := by
 have e1 : a.eval (.tmp 10) = _ := H.v10 h1
 have c0 := H.ck.cell C.hma
 refine reg_value (v := .map (some C.ma)) (w' := w) hag hdst (by simp [ROS]) (by
  simp only [execOp, hop, e1]
  simp [go_sem, c0]) H.f3
theorem RO.q8 (H : RO C d (vals a) w) (hag : Ag ROS a0 a) (h1 : d 7 = true) (hop : o.op = .load 116 (.tmp 15)) (hdst : o.dst = some 16) : o.wp Tryz.prog a w (Aft ROS a0 (RO C) d 8) Q := by
 have e1 : a.eval (.tmp 15) = _ := H.v15 h1
 have c0 := H.ck.cell C.hmb
 refine reg_value (v := .map (some C.mb)) (w' := w) hag hdst (by simp [ROS]) (by
  simp only [execOp, hop, e1]
  simp [go_sem, c0]) H.f8
theorem RO.q10 (H : RO C d (vals a) w) (hag : Ag ROS a0 a) (hop : o.op = .build 117 #[]) (hdst : o.dst = some 18) : o.wp Tryz.prog a w (Aft ROS a0 (RO C) d 10) Q := by
 refine reg_value (v := .agg #[]) (w' := w) hag hdst (by simp [ROS]) (by
  simp only [execOp, hop]
  kernel_rfl) H.f10
theorem RO.q11 (H : RO C d (vals a) w) (hag : Ag ROS a0 a) (hop : o.op = .build 117 #[]) (hdst : o.dst = some 19) : o.wp Tryz.prog a w (Aft ROS a0 (RO C) d 11) Q := by
 refine reg_value (v := .agg #[]) (w' := w) hag hdst (by simp [ROS]) (by
  simp only [execOp, hop]
  kernel_rfl) H.f11
theorem RO.q12 (H : RO C d (vals a) w) (hag : Ag ROS a0 a) (h1 : d 3 = true) (h2 : d 4 = true) (hd : d 12 = false) (hop : o.op = .mapEntry 116 (.tmp 11) (.tmp 12)) (hdst : o.dst = some 20) : o.wp Tryz.prog a w (Aft ROS a0 (RO C) d 12) Q := by
 have e1 : a.eval (.tmp 11) = _ := H.v11 h1
 have e2 : a.eval (.tmp 12) = _ := H.v12 h2
 have hs := H.sa
 rw [hd, if_neg (by decide)] at hs
 have hl := C.hb
 have hn := C.hn
 obtain ⟨st, w1, g1, g2, g3, g4⟩ := hs.entry2 (x := (C.b : Int)) (by omega)
 refine reg_value (v := .tuple #[.agg #[], st]) (w' := w1) hag hdst (by simp [ROS]) (by
  simp [execOp, hop, e1, e2, g1, Result.andThen]) (H.f12 hd g2 g3 g4)
theorem RO.q15 (H : RO C d (vals a) w) (hag : Ag ROS a0 a) (h1 : d 8 = true) (h2 : d 9 = true) (hd : d 15 = false) (hop : o.op = .mapEntry 116 (.tmp 16) (.tmp 17)) (hdst : o.dst = some 22) : o.wp Tryz.prog a w (Aft ROS a0 (RO C) d 15) Q := by
 have e1 : a.eval (.tmp 16) = _ := H.v16 h1
 have e2 : a.eval (.tmp 17) = _ := H.v17 h2
 have hs := H.sb
 rw [hd, if_neg (by decide)] at hs
 have hl := C.ha
 have hn := C.hn
 obtain ⟨st, w1, g1, g2, g3, g4⟩ := hs.entry2 (x := (C.a : Int)) (by omega)
 refine reg_value (v := .tuple #[.agg #[], st]) (w' := w1) hag hdst (by simp [ROS]) (by
  simp [execOp, hop, e1, e2, g1, Result.andThen]) (H.f15 hd g2 g3 g4)
theorem RO.q13 (H : RO C d (vals a) w) (hag : Ag ROS a0 a) (h1 : d 12 = true) (hop : o.op = .extract (.tmp 20) 1) (hdst : o.dst = some 21) : o.wp Tryz.prog a w (Aft ROS a0 (RO C) d 13) Q := by
 obtain ⟨st, e1, e2⟩ := H.v20 h1
 have e1 : a.eval (.tmp 20) = _ := e1
 refine reg_value (v := st) (w' := w) hag hdst (by simp [ROS]) (by
  simp only [execOp, hop, e1]
  rfl) (H.f13 h1 e2)
theorem RO.q16 (H : RO C d (vals a) w) (hag : Ag ROS a0 a) (h1 : d 15 = true) (hop : o.op = .extract (.tmp 22) 1) (hdst : o.dst = some 23) : o.wp Tryz.prog a w (Aft ROS a0 (RO C) d 16) Q := by
 obtain ⟨st, e1, e2⟩ := H.v22 h1
 have e1 : a.eval (.tmp 22) = _ := e1
 refine reg_value (v := st) (w' := w) hag hdst (by simp [ROS]) (by
  simp only [execOp, hop, e1]
  rfl) (H.f16 h1 e2)
theorem RO.q14 (H : RO C d (vals a) w) (hag : Ag ROS a0 a) (h1 : d 3 = true) (h2 : d 13 = true) (h3 : d 10 = true) (hop : o.op = .entryStore 116 (.tmp 11) (.tmp 21) (.tmp 18)) (hdst : o.dst = none) : o.wp Tryz.prog a w (Aft ROS a0 (RO C) d 14) Q := by
 have e1 : a.eval (.tmp 11) = _ := H.v11 h1
 have e3 : a.eval (.tmp 18) = _ := H.v18 h3
 have e2 := H.v21 h2 w rfl
 have e4 : a.eval (.tmp 21) = vals a 21 := rfl
 refine reg_skip (w' := w) hag hdst (by
  simp [execOp, hop, e1, e3, e4, e2, Result.andThen]) H.f14
theorem RO.q17 (H : RO C d (vals a) w) (hag : Ag ROS a0 a) (h1 : d 8 = true) (h2 : d 16 = true) (h3 : d 11 = true) (hop : o.op = .entryStore 116 (.tmp 16) (.tmp 23) (.tmp 19)) (hdst : o.dst = none) : o.wp Tryz.prog a w (Aft ROS a0 (RO C) d 17) Q := by
 have e1 : a.eval (.tmp 16) = _ := H.v16 h1
 have e3 : a.eval (.tmp 19) = _ := H.v19 h3
 have e2 := H.v23 h2 w rfl
 have e4 : a.eval (.tmp 23) = vals a 23 := rfl
 refine reg_skip (w' := w) hag hdst (by
  simp [execOp, hop, e1, e3, e4, e2, Result.andThen]) H.f17
end
end Go.Proofs.YtdanebboiekieaaGreatDoor
