/- The walks, part 14. -/
import Derived.Test.YtdanebboiekieaaGreatDoorP13
set_option linter.unusedSimpArgs false
set_option linter.unusedVariables false
set_option maxRecDepth 100000
set_option maxHeartbeats 16000000
namespace Go.Proofs.YtdanebboiekieaaGreatDoor
open Go.RowKit
open Go.Maps Go.WideShapes Go.MapKept Go.ChangeMaps Go.ChangeShapes
theorem q6p {w : World} {B : Nat} {es : Array MapEntry} {clock : Nat} (hb : w.heap[B]? = some (.map es clock)) : setBlock w B (.map es clock) = w := by
 have e1 : w.heap.setIfInBounds B (.map es clock) = w.heap := by
  apply Array.ext_getElem?;intro i
  by_cases hi : i = B
  ·subst hi;rw [Array.getElem?_setIfInBounds_self_of_lt (Array.getElem?_eq_some_iff.1 hb).1, hb]
  ·rw [Array.getElem?_setIfInBounds_ne (fun e => hi e.symm)]
 simp [setBlock, e1]
def Ent (w : World) (B : Nat) (st : Value) : Prop := ∀ w' : World, w'.heap[B]? = w.heap[B]? -> (Instr.entryStore 116 (.map (some B)) st (.agg #[])).run Tryz.prog w' = .ok () w'
theorem SetM.entry2 {w : World} {B : Nat} {X : Int -> Bool} (h : SetM w B X) {x : Int} (hx : 0 ≤ x ∧ x < 100) :
 ∃ (st : Value) (w1 : World), (Instr.mapEntry 116 (.map (some B)) (.int .i64 x)).run Tryz.prog w = .ok (.tuple #[.agg #[], st]) w1 ∧ SetM w1 B (q1g X x) ∧ w.mapTurned w1 B ∧ Ent w1 B st := by
 obtain ⟨w', h3, h4, h5⟩ := h.put hx;obtain ⟨D, l, ⟨es, clock, hb, F, hs, hD⟩, hh, hd, hm, hl, hr⟩ := h;have hk := qe3 hx;have ht := Tryz.underlying116;obtain ⟨s1, s2, _⟩ := F.stamped
 rcases lawI.find w hk es.toList F.keys with ⟨f1, f2⟩ | ⟨j, e0, f1, f2, f3⟩
 ·have hlast : (es.push ⟨.int .i64 x, .agg #[], clock⟩).findIdx? (fun e => ((e.born : Nat) : Int) == ((clock : Nat) : Int)) = some es.size := by
   rw [WideElems.findIdx_arr];refine WideElems.findIdx_born (l := (es.push ⟨.int .i64 x, .agg #[], clock⟩).toList) (j := es.size) (e0 := ⟨.int .i64 x, .agg #[], clock⟩) ?_ (by simp);rw [Array.toList_push, List.map_append]
   exact List.nodup_append.2 ⟨s2, by simp, fun a ha c hc e => by
    obtain ⟨y, hy, rfl⟩ := List.mem_map.1 ha;have := s1 y hy;simp at hc;omega⟩
  have hmod : (es.push ⟨.int .i64 x, .agg #[], clock⟩).modify es.size (fun e => { e with val := .agg #[] }) = es.push ⟨.int .i64 x, .agg #[], clock⟩ := by
   apply Array.ext';rw [Array.toList_modify, Array.toList_push, <- Array.length_toList, WideElems.modify_last]
  have hup : (Instr.mapUpdate 116 (.map (some B)) (.int .i64 x) (.agg #[])).run Tryz.prog w = .ok () (setBlock w B (.map (es.push ⟨.int .i64 x, .agg #[], clock⟩) (clock + 1))) := by
   simp [Instr.mapUpdate, run_underlying ht, MapKept.run_getObj_map hb, lawI.check w _ hk, f1, MapKept.run_setObj_map _ hb, Result.andThen, setBlock]
  have he : w' = setBlock w B (.map (es.push ⟨.int .i64 x, .agg #[], clock⟩) (clock + 1)) := by
   rw [h3] at hup;injection hup
  have hb1 := heap_setBlock_same hb (Obj.map (es.push ⟨.int .i64 x, .agg #[], clock⟩) (clock + 1));refine ⟨goInt clock, setBlock w B (.map (es.push ⟨.int .i64 x, .agg #[], clock⟩) (clock + 1)), ?_, by rw [<- he]; exact h4, ⟨es, clock, _, _, hb, rfl⟩, ?_⟩
  ·have hz : (zeroValue 117).run Tryz.prog w = .ok (.agg #[]) w := by kernel_rfl
   simp [Instr.mapEntry, run_underlying ht, MapKept.run_getObj_map hb, lawI.check w false hk, f1, hz, MapKept.run_setObj_map _ hb, Result.andThen, setBlock]
  ·intro W1 hW;rw [hb1] at hW;have hs1 := q6p hW;generalize es.push ⟨.int .i64 x, .agg #[], clock⟩ = es1 at hW hlast hmod hs1
   have : (Instr.entryStore 116 (.map (some B)) (goInt clock) (.agg #[])).run Tryz.prog W1 = .ok () (setBlock W1 B (.map es1 (clock + 1))) := by
    simp [Instr.entryStore, MapKept.run_getObj_map hW, asInt, asIntOf, goInt, hlast, hmod, MapKept.run_setObj_map _ hW, Result.andThen, setBlock]
   rw [this, hs1]
 ·have hj : es[j]? = some e0 := by simpa using f2
  have hv0 := qmi F (List.mem_of_getElem? f2)
  have hsame : ∀ g : MapEntry -> MapEntry, g e0 = e0 -> es.modify j g = es := fun g hg => by
   apply Array.ext';rw [Array.toList_modify, modify_eq_set _ _ _ _ f2, hg];exact WideElems.set_self _ _ _ f2
  have g1 : ({ e0 with key := .int .i64 x } : MapEntry) = e0 := by rw [<- f3]
  have g2 : ({ e0 with val := .agg #[] } : MapEntry) = e0 := by rw [<- hv0]
  have g3 : ({ e0 with key := .int .i64 x, val := .agg #[] } : MapEntry) = e0 := by rw [<- f3, <- hv0]
  have m1 := hsame (fun e => { e with key := .int .i64 x }) g1;have m2 := hsame (fun e => { e with val := .agg #[] }) g2;have m3 := hsame (fun e => { e with key := .int .i64 x, val := .agg #[] }) g3
  have hidx : es.findIdx? (fun e => ((e.born : Nat) : Int) == ((e0.born : Nat) : Int)) = some j := by
   rw [WideElems.findIdx_arr];exact WideElems.findIdx_born s2 f2
  have hself : setBlock w B (.map es clock) = w := by
   have e1 : w.heap.setIfInBounds B (.map es clock) = w.heap := by
    apply Array.ext_getElem?;intro i
    by_cases hi : i = B
    ·subst hi;rw [Array.getElem?_setIfInBounds_self_of_lt (Array.getElem?_eq_some_iff.1 hb).1, hb]
    ·rw [Array.getElem?_setIfInBounds_ne (fun e => hi e.symm)]
   simp [setBlock, e1]
  have hup : (Instr.mapUpdate 116 (.map (some B)) (.int .i64 x) (.agg #[])).run Tryz.prog w = .ok () (setBlock w B (.map es clock)) := by
   simp [Instr.mapUpdate, run_underlying ht, MapKept.run_getObj_map hb, lawI.check w _ hk, f1, hj, f3, lawI.stays w hk, m3, MapKept.run_setObj_map _ hb, Result.andThen, setBlock]
  have he : w' = w := by
   rw [h3] at hup;injection hup with _ hup
   rw [hup, hself]
  refine ⟨goInt e0.born, w, ?_, by rw [<- he]; exact h4, ⟨es, clock, es, clock, hb, hself.symm⟩, ?_⟩
  ·have : (Instr.mapEntry 116 (.map (some B)) (.int .i64 x)).run Tryz.prog w = .ok (.tuple #[.agg #[], goInt e0.born]) (setBlock w B (.map es clock)) := by
    clear g1 g2 g3 m2 m3 hself hup he hidx hs hD hh hm hr hl;simp [Instr.mapEntry, run_underlying ht, MapKept.run_getObj_map hb, lawI.check w false hk, f1, hj, f3, lawI.stays w hk, m1, hv0, MapKept.run_setObj_map _ hb, Result.andThen, setBlock]
   rw [this, hself]
  ·intro W1 hW;rw [hb] at hW;have hs1 := q6p hW
   have : (Instr.entryStore 116 (.map (some B)) (goInt e0.born) (.agg #[])).run Tryz.prog W1 = .ok () (setBlock W1 B (.map es clock)) := by
    simp [Instr.entryStore, MapKept.run_getObj_map hW, asInt, asIntOf, goInt, hidx, m2, MapKept.run_setObj_map _ hW, Result.andThen, setBlock]
   rw [this, hs1]
structure ROC where
 W0 : World
 vS : Value
 g : Nat
 off : Nat
 n : Nat
 c : Nat
 a : Nat
 b : Nat
 ma : Nat
 mb : Nat
 Xa : Int -> Bool
 Xb : Int -> Bool
 sb : Nat
 hvS : vS = .slice (some ⟨g, off, none⟩) n c
 hbox : W0.cell? ⟨sb, 0, none⟩ = some vS
 ha : a < n
 hb : b < n
 hn : n ≤ 100
 hma : W0.cell? ⟨g, off + a, none⟩ = some (.map (some ma))
 hmb : W0.cell? ⟨g, off + b, none⟩ = some (.map (some mb))
 hne : ma ≠ mb
def ROS : List Nat := [8, 9, 10, 11, 12, 13, 14, 15, 16, 17, 18, 19, 20, 21, 22, 23]
structure RO (C : ROC) (d : Nat -> Bool) (val : Nat -> Value) (w : World) : Prop where
 gr : Grew (fun k => k = C.ma ∨ k = C.mb) C.W0 w
 ck : CKeepA C.W0 w
 sa : SetM w C.ma (if d 12 = true then q1g C.Xa (C.b : Int) else C.Xa)
 sb : SetM w C.mb (if d 15 = true then q1g C.Xb (C.a : Int) else C.Xb)
 v8 : d 0 = true -> val 8 = C.vS
 v9 : d 1 = true -> val 9 = (.int .i64 (C.a : Int))
 v10 : d 2 = true -> val 10 = (.pointer (some ⟨C.g, C.off + C.a, none⟩))
 v11 : d 3 = true -> val 11 = (.map (some C.ma))
 v12 : d 4 = true -> val 12 = (.int .i64 (C.b : Int))
 v13 : d 5 = true -> val 13 = C.vS
 v14 : d 6 = true -> val 14 = (.int .i64 (C.b : Int))
 v15 : d 7 = true -> val 15 = (.pointer (some ⟨C.g, C.off + C.b, none⟩))
 v16 : d 8 = true -> val 16 = (.map (some C.mb))
 v17 : d 9 = true -> val 17 = (.int .i64 (C.a : Int))
 v18 : d 10 = true -> val 18 = (.agg #[])
 v19 : d 11 = true -> val 19 = (.agg #[])
 v20 : d 12 = true -> ∃ st, val 20 = .tuple #[.agg #[], st] ∧ Ent w C.ma st
 v21 : d 13 = true -> Ent w C.ma (val 21)
 v22 : d 15 = true -> ∃ st, val 22 = .tuple #[.agg #[], st] ∧ Ent w C.mb st
 v23 : d 16 = true -> Ent w C.mb (val 23)
 o13 : d 12 = false -> d 13 = false
 o16 : d 15 = false -> d 16 = false
theorem q6r {val : Nat -> Value} {k j : Nat} {v : Value} (h : j ≠ k) : setVl val k v j = val j := if_neg h
theorem Ent.keep {w w' : World} {B : Nat} {st : Value} (h : Ent w B st) (hb : w'.heap[B]? = w.heap[B]?) : Ent w' B st := fun W hW => h W (hW.trans hb)
section
variable {C : ROC} {d : Nat -> Bool} {val : Nat -> Value} {w : World}
theorem rk1 {d : Nat -> Bool} {val : Nat -> Value} {i j k l : Nat} {v x : Value} (H : d k = true -> val l = x) (e : l ≠ j := by decide) (n : k ≠ i := by decide) : don d i k = true -> setVl val j v l = x := fun h => (q6r e).trans (H (by simpa [don, n] using h))
theorem rk2 {F : Value -> Value} {G : Value -> Prop} {d : Nat -> Bool} {val : Nat -> Value} {i j k l : Nat} {v : Value} (H : d k = true -> ∃ st, val l = F st ∧ G st) (e : l ≠ j := by decide) (n : k ≠ i := by decide) : don d i k = true -> ∃ st, setVl val j v l = F st ∧ G st := fun h => by rw [q6r e]; exact H (by simpa [don, n] using h)
theorem rk3 {w : World} {M : Nat} {d : Nat -> Bool} {val : Nat -> Value} {i j k l : Nat} {v : Value} (H : d k = true -> Ent w M (val l)) (e : l ≠ j := by decide) (n : k ≠ i := by decide) : don d i k = true -> Ent w M (setVl val j v l) := fun h => by rw [q6r e]; exact H (by simpa [don, n] using h)
theorem RO.f0 (H : RO C d val w) : RO C (don d 0) (setVl val 8 C.vS) w :=
 ⟨H.gr, H.ck, by simpa [don] using H.sa, by simpa [don] using H.sb, (fun _ => by simp [setVl]), rk1 H.v9, rk1 H.v10, rk1 H.v11, rk1 H.v12, rk1 H.v13, rk1 H.v14, rk1 H.v15, rk1 H.v16, rk1 H.v17, rk1 H.v18, rk1 H.v19, rk2 H.v20, rk3 H.v21, rk2 H.v22, rk3 H.v23, (fun h => by simpa [don] using H.o13 (by simpa [don] using h)), (fun h => by simpa [don] using H.o16 (by simpa [don] using h))⟩
theorem RO.f1 (H : RO C d val w) : RO C (don d 1) (setVl val 9 (.int .i64 (C.a : Int))) w :=
 ⟨H.gr, H.ck, by simpa [don] using H.sa, by simpa [don] using H.sb, rk1 H.v8, (fun _ => by simp [setVl]), rk1 H.v10, rk1 H.v11, rk1 H.v12, rk1 H.v13, rk1 H.v14, rk1 H.v15, rk1 H.v16, rk1 H.v17, rk1 H.v18, rk1 H.v19, rk2 H.v20, rk3 H.v21, rk2 H.v22, rk3 H.v23, (fun h => by simpa [don] using H.o13 (by simpa [don] using h)), (fun h => by simpa [don] using H.o16 (by simpa [don] using h))⟩
theorem RO.f2 (H : RO C d val w) : RO C (don d 2) (setVl val 10 (.pointer (some ⟨C.g, C.off + C.a, none⟩))) w :=
 ⟨H.gr, H.ck, by simpa [don] using H.sa, by simpa [don] using H.sb, rk1 H.v8, rk1 H.v9, (fun _ => by simp [setVl]), rk1 H.v11, rk1 H.v12, rk1 H.v13, rk1 H.v14, rk1 H.v15, rk1 H.v16, rk1 H.v17, rk1 H.v18, rk1 H.v19, rk2 H.v20, rk3 H.v21, rk2 H.v22, rk3 H.v23, (fun h => by simpa [don] using H.o13 (by simpa [don] using h)), (fun h => by simpa [don] using H.o16 (by simpa [don] using h))⟩
theorem RO.f3 (H : RO C d val w) : RO C (don d 3) (setVl val 11 (.map (some C.ma))) w :=
 ⟨H.gr, H.ck, by simpa [don] using H.sa, by simpa [don] using H.sb, rk1 H.v8, rk1 H.v9, rk1 H.v10, (fun _ => by simp [setVl]), rk1 H.v12, rk1 H.v13, rk1 H.v14, rk1 H.v15, rk1 H.v16, rk1 H.v17, rk1 H.v18, rk1 H.v19, rk2 H.v20, rk3 H.v21, rk2 H.v22, rk3 H.v23, (fun h => by simpa [don] using H.o13 (by simpa [don] using h)), (fun h => by simpa [don] using H.o16 (by simpa [don] using h))⟩
theorem RO.f4 (H : RO C d val w) : RO C (don d 4) (setVl val 12 (.int .i64 (C.b : Int))) w :=
 ⟨H.gr, H.ck, by simpa [don] using H.sa, by simpa [don] using H.sb, rk1 H.v8, rk1 H.v9, rk1 H.v10, rk1 H.v11, (fun _ => by simp [setVl]), rk1 H.v13, rk1 H.v14, rk1 H.v15, rk1 H.v16, rk1 H.v17, rk1 H.v18, rk1 H.v19, rk2 H.v20, rk3 H.v21, rk2 H.v22, rk3 H.v23, (fun h => by simpa [don] using H.o13 (by simpa [don] using h)), (fun h => by simpa [don] using H.o16 (by simpa [don] using h))⟩
theorem RO.f5 (H : RO C d val w) : RO C (don d 5) (setVl val 13 C.vS) w :=
 ⟨H.gr, H.ck, by simpa [don] using H.sa, by simpa [don] using H.sb, rk1 H.v8, rk1 H.v9, rk1 H.v10, rk1 H.v11, rk1 H.v12, (fun _ => by simp [setVl]), rk1 H.v14, rk1 H.v15, rk1 H.v16, rk1 H.v17, rk1 H.v18, rk1 H.v19, rk2 H.v20, rk3 H.v21, rk2 H.v22, rk3 H.v23, (fun h => by simpa [don] using H.o13 (by simpa [don] using h)), (fun h => by simpa [don] using H.o16 (by simpa [don] using h))⟩
theorem RO.f6 (H : RO C d val w) : RO C (don d 6) (setVl val 14 (.int .i64 (C.b : Int))) w :=
 ⟨H.gr, H.ck, by simpa [don] using H.sa, by simpa [don] using H.sb, rk1 H.v8, rk1 H.v9, rk1 H.v10, rk1 H.v11, rk1 H.v12, rk1 H.v13, (fun _ => by simp [setVl]), rk1 H.v15, rk1 H.v16, rk1 H.v17, rk1 H.v18, rk1 H.v19, rk2 H.v20, rk3 H.v21, rk2 H.v22, rk3 H.v23, (fun h => by simpa [don] using H.o13 (by simpa [don] using h)), (fun h => by simpa [don] using H.o16 (by simpa [don] using h))⟩
theorem RO.f7 (H : RO C d val w) : RO C (don d 7) (setVl val 15 (.pointer (some ⟨C.g, C.off + C.b, none⟩))) w :=
 ⟨H.gr, H.ck, by simpa [don] using H.sa, by simpa [don] using H.sb, rk1 H.v8, rk1 H.v9, rk1 H.v10, rk1 H.v11, rk1 H.v12, rk1 H.v13, rk1 H.v14, (fun _ => by simp [setVl]), rk1 H.v16, rk1 H.v17, rk1 H.v18, rk1 H.v19, rk2 H.v20, rk3 H.v21, rk2 H.v22, rk3 H.v23, (fun h => by simpa [don] using H.o13 (by simpa [don] using h)), (fun h => by simpa [don] using H.o16 (by simpa [don] using h))⟩
theorem RO.f8 (H : RO C d val w) : RO C (don d 8) (setVl val 16 (.map (some C.mb))) w :=
 ⟨H.gr, H.ck, by simpa [don] using H.sa, by simpa [don] using H.sb, rk1 H.v8, rk1 H.v9, rk1 H.v10, rk1 H.v11, rk1 H.v12, rk1 H.v13, rk1 H.v14, rk1 H.v15, (fun _ => by simp [setVl]), rk1 H.v17, rk1 H.v18, rk1 H.v19, rk2 H.v20, rk3 H.v21, rk2 H.v22, rk3 H.v23, (fun h => by simpa [don] using H.o13 (by simpa [don] using h)), (fun h => by simpa [don] using H.o16 (by simpa [don] using h))⟩
theorem RO.f9 (H : RO C d val w) : RO C (don d 9) (setVl val 17 (.int .i64 (C.a : Int))) w :=
 ⟨H.gr, H.ck, by simpa [don] using H.sa, by simpa [don] using H.sb, rk1 H.v8, rk1 H.v9, rk1 H.v10, rk1 H.v11, rk1 H.v12, rk1 H.v13, rk1 H.v14, rk1 H.v15, rk1 H.v16, (fun _ => by simp [setVl]), rk1 H.v18, rk1 H.v19, rk2 H.v20, rk3 H.v21, rk2 H.v22, rk3 H.v23, (fun h => by simpa [don] using H.o13 (by simpa [don] using h)), (fun h => by simpa [don] using H.o16 (by simpa [don] using h))⟩
theorem RO.f10 (H : RO C d val w) : RO C (don d 10) (setVl val 18 (.agg #[])) w :=
 ⟨H.gr, H.ck, by simpa [don] using H.sa, by simpa [don] using H.sb, rk1 H.v8, rk1 H.v9, rk1 H.v10, rk1 H.v11, rk1 H.v12, rk1 H.v13, rk1 H.v14, rk1 H.v15, rk1 H.v16, rk1 H.v17, (fun _ => by simp [setVl]), rk1 H.v19, rk2 H.v20, rk3 H.v21, rk2 H.v22, rk3 H.v23, (fun h => by simpa [don] using H.o13 (by simpa [don] using h)), (fun h => by simpa [don] using H.o16 (by simpa [don] using h))⟩
theorem RO.f11 (H : RO C d val w) : RO C (don d 11) (setVl val 19 (.agg #[])) w :=
 ⟨H.gr, H.ck, by simpa [don] using H.sa, by simpa [don] using H.sb, rk1 H.v8, rk1 H.v9, rk1 H.v10, rk1 H.v11, rk1 H.v12, rk1 H.v13, rk1 H.v14, rk1 H.v15, rk1 H.v16, rk1 H.v17, rk1 H.v18, (fun _ => by simp [setVl]), rk2 H.v20, rk3 H.v21, rk2 H.v22, rk3 H.v23, (fun h => by simpa [don] using H.o13 (by simpa [don] using h)), (fun h => by simpa [don] using H.o16 (by simpa [don] using h))⟩
theorem RO.f12 (H : RO C d val w) (hd : d 12 = false) {w1 : World} {st : Value} (h1 : SetM w1 C.ma (q1g C.Xa (C.b : Int))) (h2 : w.mapTurned w1 C.ma) (h3 : Ent w1 C.ma st) : RO C (don d 12) (setVl val 20 (.tuple #[.agg #[], st])) w1 := by
 have h0 : d 13 = false := H.o13 hd;have hg := h2.grown;have hne := C.hne;have hkpb : w1.heap[C.mb]? = w.heap[C.mb]? := hg.block _ H.sb.lt (fun e => by have := Option.some.inj e; omega);have hck : CKeepA w w1 := CKeepA.of_grown hg (fun k e => by cases e; obtain ⟨es, cl, ho⟩ := H.sa.obj; exact ⟨_, ho, rfl⟩);refine ⟨Grew.trans H.gr ⟨hg.os, hg.tape, hg.output, hg.size, fun k hk hx => hg.block k hk (fun e => hx (.inl (Option.some.inj e)))⟩ (fun _ _ h => h), H.ck.trans hck, by simp only [don, if_true]; exact h1, by have h4 := H.sb.block hkpb; simpa [don] using h4, rk1 H.v8, rk1 H.v9, rk1 H.v10, rk1 H.v11, rk1 H.v12, rk1 H.v13, rk1 H.v14, rk1 H.v15, rk1 H.v16, rk1 H.v17, rk1 H.v18, rk1 H.v19, (fun _ => ⟨st, by simp [setVl], h3⟩), (fun h => absurd (show d 13 = true by simpa [don] using h) (by rw [h0]; decide)), (fun h => by obtain ⟨st, h1, h2⟩ := H.v22 (by simpa [don] using h); exact ⟨st, by simpa [setVl] using h1, h2.keep (hkpb)⟩), (fun h => by have h2 := H.v23 (by simpa [don] using h); rw [q6r (by decide)]; exact h2.keep (hkpb)), (fun h => by simp [don] at h), (fun h => by simpa [don] using H.o16 (by simpa [don] using h))⟩
theorem RO.f15 (H : RO C d val w) (hd : d 15 = false) {w1 : World} {st : Value} (h1 : SetM w1 C.mb (q1g C.Xb (C.a : Int))) (h2 : w.mapTurned w1 C.mb) (h3 : Ent w1 C.mb st) : RO C (don d 15) (setVl val 22 (.tuple #[.agg #[], st])) w1 := by
 have h0 : d 16 = false := H.o16 hd;have hg := h2.grown;have hne := C.hne;have hkpa : w1.heap[C.ma]? = w.heap[C.ma]? := hg.block _ H.sa.lt (fun e => by have := Option.some.inj e; omega);have hck : CKeepA w w1 := CKeepA.of_grown hg (fun k e => by cases e; obtain ⟨es, cl, ho⟩ := H.sb.obj; exact ⟨_, ho, rfl⟩);refine ⟨Grew.trans H.gr ⟨hg.os, hg.tape, hg.output, hg.size, fun k hk hx => hg.block k hk (fun e => hx (.inr (Option.some.inj e)))⟩ (fun _ _ h => h), H.ck.trans hck, by have h4 := H.sa.block hkpa; simpa [don] using h4, by simp only [don, if_true]; exact h1, rk1 H.v8, rk1 H.v9, rk1 H.v10, rk1 H.v11, rk1 H.v12, rk1 H.v13, rk1 H.v14, rk1 H.v15, rk1 H.v16, rk1 H.v17, rk1 H.v18, rk1 H.v19, (fun h => by obtain ⟨st, h1, h2⟩ := H.v20 (by simpa [don] using h); exact ⟨st, by simpa [setVl] using h1, h2.keep (hkpa)⟩), (fun h => by have h2 := H.v21 (by simpa [don] using h); rw [q6r (by decide)]; exact h2.keep (hkpa)), (fun _ => ⟨st, by simp [setVl], h3⟩), (fun h => absurd (show d 16 = true by simpa [don] using h) (by rw [h0]; decide)), (fun h => by simpa [don] using H.o13 (by simpa [don] using h)), (fun h => by simp [don] at h)⟩
theorem RO.f13 (H : RO C d val w) {st : Value} (hd1 : d 12 = true) (h3 : Ent w C.ma st) : RO C (don d 13) (setVl val 21 st) w :=
 ⟨H.gr, H.ck, by simpa [don] using H.sa, by simpa [don] using H.sb, rk1 H.v8, rk1 H.v9, rk1 H.v10, rk1 H.v11, rk1 H.v12, rk1 H.v13, rk1 H.v14, rk1 H.v15, rk1 H.v16, rk1 H.v17, rk1 H.v18, rk1 H.v19, rk2 H.v20, (fun _ => by simpa [setVl] using h3), rk2 H.v22, rk3 H.v23, (fun h => absurd (show d 12 = false by simpa [don] using h) (by rw [hd1]; decide)), (fun h => by simpa [don] using H.o16 (by simpa [don] using h))⟩
theorem RO.f16 (H : RO C d val w) {st : Value} (hd1 : d 15 = true) (h3 : Ent w C.mb st) : RO C (don d 16) (setVl val 23 st) w :=
 ⟨H.gr, H.ck, by simpa [don] using H.sa, by simpa [don] using H.sb, rk1 H.v8, rk1 H.v9, rk1 H.v10, rk1 H.v11, rk1 H.v12, rk1 H.v13, rk1 H.v14, rk1 H.v15, rk1 H.v16, rk1 H.v17, rk1 H.v18, rk1 H.v19, rk2 H.v20, rk3 H.v21, rk2 H.v22, (fun _ => by simpa [setVl] using h3), (fun h => by simpa [don] using H.o13 (by simpa [don] using h)), (fun h => absurd (show d 15 = false by simpa [don] using h) (by rw [hd1]; decide))⟩
theorem RO.f14 (H : RO C d val w) : RO C (don d 14) val w :=
 ⟨H.gr, H.ck, by simpa [don] using H.sa, by simpa [don] using H.sb, (fun h => by have h2 := H.v8 (by simpa [don] using h); exact h2), (fun h => by have h2 := H.v9 (by simpa [don] using h); exact h2), (fun h => by have h2 := H.v10 (by simpa [don] using h); exact h2), (fun h => by have h2 := H.v11 (by simpa [don] using h); exact h2), (fun h => by have h2 := H.v12 (by simpa [don] using h); exact h2), (fun h => by have h2 := H.v13 (by simpa [don] using h); exact h2), (fun h => by have h2 := H.v14 (by simpa [don] using h); exact h2), (fun h => by have h2 := H.v15 (by simpa [don] using h); exact h2), (fun h => by have h2 := H.v16 (by simpa [don] using h); exact h2), (fun h => by have h2 := H.v17 (by simpa [don] using h); exact h2), (fun h => by have h2 := H.v18 (by simpa [don] using h); exact h2), (fun h => by have h2 := H.v19 (by simpa [don] using h); exact h2), (fun h => by obtain ⟨st, h1, h2⟩ := H.v20 (by simpa [don] using h); exact ⟨st, h1, h2⟩), (fun h => by have h2 := H.v21 (by simpa [don] using h); exact h2), (fun h => by obtain ⟨st, h1, h2⟩ := H.v22 (by simpa [don] using h); exact ⟨st, h1, h2⟩), (fun h => by have h2 := H.v23 (by simpa [don] using h); exact h2), (fun h => by simpa [don] using H.o13 (by simpa [don] using h)), (fun h => by simpa [don] using H.o16 (by simpa [don] using h))⟩
theorem RO.f17 (H : RO C d val w) : RO C (don d 17) val w :=
 ⟨H.gr, H.ck, by simpa [don] using H.sa, by simpa [don] using H.sb, (fun h => by have h2 := H.v8 (by simpa [don] using h); exact h2), (fun h => by have h2 := H.v9 (by simpa [don] using h); exact h2), (fun h => by have h2 := H.v10 (by simpa [don] using h); exact h2), (fun h => by have h2 := H.v11 (by simpa [don] using h); exact h2), (fun h => by have h2 := H.v12 (by simpa [don] using h); exact h2), (fun h => by have h2 := H.v13 (by simpa [don] using h); exact h2), (fun h => by have h2 := H.v14 (by simpa [don] using h); exact h2), (fun h => by have h2 := H.v15 (by simpa [don] using h); exact h2), (fun h => by have h2 := H.v16 (by simpa [don] using h); exact h2), (fun h => by have h2 := H.v17 (by simpa [don] using h); exact h2), (fun h => by have h2 := H.v18 (by simpa [don] using h); exact h2), (fun h => by have h2 := H.v19 (by simpa [don] using h); exact h2), (fun h => by obtain ⟨st, h1, h2⟩ := H.v20 (by simpa [don] using h); exact ⟨st, h1, h2⟩), (fun h => by have h2 := H.v21 (by simpa [don] using h); exact h2), (fun h => by obtain ⟨st, h1, h2⟩ := H.v22 (by simpa [don] using h); exact ⟨st, h1, h2⟩), (fun h => by have h2 := H.v23 (by simpa [don] using h); exact h2), (fun h => by simpa [don] using H.o13 (by simpa [don] using h)), (fun h => by simpa [don] using H.o16 (by simpa [don] using h))⟩
end
section
variable {C : ROC} {d : Nat -> Bool} {a0 a : Act} {w : World} {Q : Exit -> Act -> World -> Prop} {o : Oper}
theorem RO.q0 (H : RO C d (vals a) w) (hag : Ag ROS a0 a) (h2 : vals a0 2 = .pointer (some ⟨C.sb, 0, none⟩)) (hop : o.op = .load 114 (.tmp 2)) (hdst : o.dst = some 8) : o.wp Tryz.prog a w (Aft ROS a0 (RO C) d 0) Q := by
 have e : a.eval (.tmp 2) = .pointer (some ⟨C.sb, 0, none⟩) := (hag.old (by simp [ROS])).trans h2;have c0 := H.ck.cell C.hbox;have hv := C.hvS;rw [hv] at c0
 refine q0l (v := C.vS) (w' := w) hag hdst (by simp [ROS]) (by
  simp only [execOp, hop, e, hv];simp [go_sem, c0]) H.f0
theorem RO.q5 (H : RO C d (vals a) w) (hag : Ag ROS a0 a) (h2 : vals a0 2 = .pointer (some ⟨C.sb, 0, none⟩)) (hop : o.op = .load 114 (.tmp 2)) (hdst : o.dst = some 13) : o.wp Tryz.prog a w (Aft ROS a0 (RO C) d 5) Q := by
 have e : a.eval (.tmp 2) = .pointer (some ⟨C.sb, 0, none⟩) := (hag.old (by simp [ROS])).trans h2;have c0 := H.ck.cell C.hbox;have hv := C.hvS;rw [hv] at c0
 refine q0l (v := C.vS) (w' := w) hag hdst (by simp [ROS]) (by
  simp only [execOp, hop, e, hv];simp [go_sem, c0]) H.f5
theorem RO.q1 (H : RO C d (vals a) w) (hag : Ag ROS a0 a) (h2 : vals a0 0 = .int .i64 (C.a : Int)) (hop : o.op = .move (.tmp 0)) (hdst : o.dst = some 9) : o.wp Tryz.prog a w (Aft ROS a0 (RO C) d 1) Q := by
 have e : a.eval (.tmp 0) = .int .i64 (C.a : Int) := (hag.old (by simp [ROS])).trans h2
 refine q0l (w' := w) hag hdst (by simp [ROS]) (by
  simp only [execOp, hop, e];rfl) H.f1
theorem RO.q4 (H : RO C d (vals a) w) (hag : Ag ROS a0 a) (h2 : vals a0 1 = .int .i64 (C.b : Int)) (hop : o.op = .move (.tmp 1)) (hdst : o.dst = some 12) : o.wp Tryz.prog a w (Aft ROS a0 (RO C) d 4) Q := by
 have e : a.eval (.tmp 1) = .int .i64 (C.b : Int) := (hag.old (by simp [ROS])).trans h2
 refine q0l (w' := w) hag hdst (by simp [ROS]) (by
  simp only [execOp, hop, e];rfl) H.f4
theorem RO.q6 (H : RO C d (vals a) w) (hag : Ag ROS a0 a) (h2 : vals a0 1 = .int .i64 (C.b : Int)) (hop : o.op = .move (.tmp 1)) (hdst : o.dst = some 14) : o.wp Tryz.prog a w (Aft ROS a0 (RO C) d 6) Q := by
 have e : a.eval (.tmp 1) = .int .i64 (C.b : Int) := (hag.old (by simp [ROS])).trans h2
 refine q0l (w' := w) hag hdst (by simp [ROS]) (by
  simp only [execOp, hop, e];rfl) H.f6
theorem RO.q9 (H : RO C d (vals a) w) (hag : Ag ROS a0 a) (h2 : vals a0 0 = .int .i64 (C.a : Int)) (hop : o.op = .move (.tmp 0)) (hdst : o.dst = some 17) : o.wp Tryz.prog a w (Aft ROS a0 (RO C) d 9) Q := by
 have e : a.eval (.tmp 0) = .int .i64 (C.a : Int) := (hag.old (by simp [ROS])).trans h2
 refine q0l (w' := w) hag hdst (by simp [ROS]) (by
  simp only [execOp, hop, e];rfl) H.f9
theorem RO.q2 (H : RO C d (vals a) w) (hag : Ag ROS a0 a) (h1 : d 0 = true) (h2 : d 1 = true) (hop : o.op = .indexAddr 114 (.tmp 8) (.tmp 9)) (hdst : o.dst = some 10) : o.wp Tryz.prog a w (Aft ROS a0 (RO C) d 2) Q := by
 have e1 : a.eval (.tmp 8) = _ := H.v8 h1;have e2 : a.eval (.tmp 9) = _ := H.v9 h2;have hl := C.ha;have k1 : (0 : Int) ≤ (C.a : Int) := Int.natCast_nonneg _;have k2 : (C.a : Int) < (C.n : Int) := by omega
 rw [C.hvS] at e1
 refine q0l (v := .pointer (some ⟨C.g, C.off + C.a, none⟩)) (w' := w) hag hdst (by simp [ROS]) (by
  simp only [execOp, hop, e1, e2];simp [go_sem, k1, k2]) H.f2
theorem RO.q7 (H : RO C d (vals a) w) (hag : Ag ROS a0 a) (h1 : d 5 = true) (h2 : d 6 = true) (hop : o.op = .indexAddr 114 (.tmp 13) (.tmp 14)) (hdst : o.dst = some 15) : o.wp Tryz.prog a w (Aft ROS a0 (RO C) d 7) Q := by
 have e1 : a.eval (.tmp 13) = _ := H.v13 h1;have e2 : a.eval (.tmp 14) = _ := H.v14 h2;have hl := C.hb;have k1 : (0 : Int) ≤ (C.b : Int) := Int.natCast_nonneg _;have k2 : (C.b : Int) < (C.n : Int) := by omega
 rw [C.hvS] at e1
 refine q0l (v := .pointer (some ⟨C.g, C.off + C.b, none⟩)) (w' := w) hag hdst (by simp [ROS]) (by
  simp only [execOp, hop, e1, e2];simp [go_sem, k1, k2]) H.f7
theorem RO.q3 (H : RO C d (vals a) w) (hag : Ag ROS a0 a) (h1 : d 2 = true) (hop : o.op = .load 116 (.tmp 10)) (hdst : o.dst = some 11) : o.wp Tryz.prog a w (Aft ROS a0 (RO C) d 3) Q := by
 have e1 : a.eval (.tmp 10) = _ := H.v10 h1;have c0 := H.ck.cell C.hma
 refine q0l (v := .map (some C.ma)) (w' := w) hag hdst (by simp [ROS]) (by
  simp only [execOp, hop, e1];simp [go_sem, c0]) H.f3
theorem RO.q8 (H : RO C d (vals a) w) (hag : Ag ROS a0 a) (h1 : d 7 = true) (hop : o.op = .load 116 (.tmp 15)) (hdst : o.dst = some 16) : o.wp Tryz.prog a w (Aft ROS a0 (RO C) d 8) Q := by
 have e1 : a.eval (.tmp 15) = _ := H.v15 h1;have c0 := H.ck.cell C.hmb
 refine q0l (v := .map (some C.mb)) (w' := w) hag hdst (by simp [ROS]) (by
  simp only [execOp, hop, e1];simp [go_sem, c0]) H.f8
theorem RO.q10 (H : RO C d (vals a) w) (hag : Ag ROS a0 a) (hop : o.op = .build 117 #[]) (hdst : o.dst = some 18) : o.wp Tryz.prog a w (Aft ROS a0 (RO C) d 10) Q := by
 refine q0l (v := .agg #[]) (w' := w) hag hdst (by simp [ROS]) (by
  simp only [execOp, hop]
  kernel_rfl) H.f10
theorem RO.q11 (H : RO C d (vals a) w) (hag : Ag ROS a0 a) (hop : o.op = .build 117 #[]) (hdst : o.dst = some 19) : o.wp Tryz.prog a w (Aft ROS a0 (RO C) d 11) Q := by
 refine q0l (v := .agg #[]) (w' := w) hag hdst (by simp [ROS]) (by
  simp only [execOp, hop]
  kernel_rfl) H.f11
theorem RO.q12 (H : RO C d (vals a) w) (hag : Ag ROS a0 a) (h1 : d 3 = true) (h2 : d 4 = true) (hd : d 12 = false) (hop : o.op = .mapEntry 116 (.tmp 11) (.tmp 12)) (hdst : o.dst = some 20) : o.wp Tryz.prog a w (Aft ROS a0 (RO C) d 12) Q := by
 have e1 : a.eval (.tmp 11) = _ := H.v11 h1;have e2 : a.eval (.tmp 12) = _ := H.v12 h2;have hs := H.sa;rw [hd, if_neg (by decide)] at hs;have hl := C.hb;have hn := C.hn;obtain ⟨st, w1, g1, g2, g3, g4⟩ := hs.entry2 (x := (C.b : Int)) (by omega)
 refine q0l (v := .tuple #[.agg #[], st]) (w' := w1) hag hdst (by simp [ROS]) (by
  simp [execOp, hop, e1, e2, g1, Result.andThen]) (H.f12 hd g2 g3 g4)
theorem RO.q15 (H : RO C d (vals a) w) (hag : Ag ROS a0 a) (h1 : d 8 = true) (h2 : d 9 = true) (hd : d 15 = false) (hop : o.op = .mapEntry 116 (.tmp 16) (.tmp 17)) (hdst : o.dst = some 22) : o.wp Tryz.prog a w (Aft ROS a0 (RO C) d 15) Q := by
 have e1 : a.eval (.tmp 16) = _ := H.v16 h1;have e2 : a.eval (.tmp 17) = _ := H.v17 h2;have hs := H.sb;rw [hd, if_neg (by decide)] at hs;have hl := C.ha;have hn := C.hn;obtain ⟨st, w1, g1, g2, g3, g4⟩ := hs.entry2 (x := (C.a : Int)) (by omega)
 refine q0l (v := .tuple #[.agg #[], st]) (w' := w1) hag hdst (by simp [ROS]) (by
  simp [execOp, hop, e1, e2, g1, Result.andThen]) (H.f15 hd g2 g3 g4)
theorem RO.q13 (H : RO C d (vals a) w) (hag : Ag ROS a0 a) (h1 : d 12 = true) (hop : o.op = .extract (.tmp 20) 1) (hdst : o.dst = some 21) : o.wp Tryz.prog a w (Aft ROS a0 (RO C) d 13) Q := by
 obtain ⟨st, e1, e2⟩ := H.v20 h1;have e1 : a.eval (.tmp 20) = _ := e1
 refine q0l (v := st) (w' := w) hag hdst (by simp [ROS]) (by
  simp only [execOp, hop, e1];rfl) (H.f13 h1 e2)
theorem RO.q16 (H : RO C d (vals a) w) (hag : Ag ROS a0 a) (h1 : d 15 = true) (hop : o.op = .extract (.tmp 22) 1) (hdst : o.dst = some 23) : o.wp Tryz.prog a w (Aft ROS a0 (RO C) d 16) Q := by
 obtain ⟨st, e1, e2⟩ := H.v22 h1;have e1 : a.eval (.tmp 22) = _ := e1
 refine q0l (v := st) (w' := w) hag hdst (by simp [ROS]) (by
  simp only [execOp, hop, e1];rfl) (H.f16 h1 e2)
theorem RO.q14 (H : RO C d (vals a) w) (hag : Ag ROS a0 a) (h1 : d 3 = true) (h2 : d 13 = true) (h3 : d 10 = true) (hop : o.op = .entryStore 116 (.tmp 11) (.tmp 21) (.tmp 18)) (hdst : o.dst = none) : o.wp Tryz.prog a w (Aft ROS a0 (RO C) d 14) Q := by
 have e1 : a.eval (.tmp 11) = _ := H.v11 h1;have e3 : a.eval (.tmp 18) = _ := H.v18 h3;have e2 := H.v21 h2 w rfl;have e4 : a.eval (.tmp 21) = vals a 21 := rfl
 refine qfk (w' := w) hag hdst (by
  simp [execOp, hop, e1, e3, e4, e2, Result.andThen]) H.f14
theorem RO.q17 (H : RO C d (vals a) w) (hag : Ag ROS a0 a) (h1 : d 8 = true) (h2 : d 16 = true) (h3 : d 11 = true) (hop : o.op = .entryStore 116 (.tmp 16) (.tmp 23) (.tmp 19)) (hdst : o.dst = none) : o.wp Tryz.prog a w (Aft ROS a0 (RO C) d 17) Q := by
 have e1 : a.eval (.tmp 16) = _ := H.v16 h1;have e3 : a.eval (.tmp 19) = _ := H.v19 h3;have e2 := H.v23 h2 w rfl;have e4 : a.eval (.tmp 23) = vals a 23 := rfl
 refine qfk (w' := w) hag hdst (by
  simp [execOp, hop, e1, e3, e4, e2, Result.andThen]) H.f17
end
end Go.Proofs.YtdanebboiekieaaGreatDoor
namespace Go.Proofs.YtdanebboiekieaaGreatDoor
open Go.RowKit
open Go.Maps Go.WideShapes Go.MapKept Go.ChangeMaps Go.ChangeShapes
def q41 (σ : Int -> Int -> Bool) (a b : Int) : Int -> Int -> Bool := fun i j => σ i j || (!decide (a = b) && ((decide (i = a) && decide (j = b)) || (decide (i = b) && decide (j = a))))
structure JO (n b0 n0 g c sb cb : Nat) (ms : Nat -> Nat) (σ : Int -> Int -> Bool) (W : World) : Prop where
 box : W.cell? ⟨sb, 0, none⟩ = some (.slice (some ⟨g, 0, none⟩) n c)
 cbox : W.cell? ⟨cb, 0, none⟩ = some (.func (.func 72) #[] #[.pointer (some ⟨sb, 0, none⟩)])
 row : ∀ k, k < n -> W.cell? ⟨g, k, none⟩ = some (.map (some (ms k)))
 sets : ∀ k, k < n -> SetM W (ms k) (σ (k : Int))
 inj : ∀ j k, j < n -> k < n -> ms j = ms k -> j = k
 lo : sb < n0 ∧ g < n0 ∧ cb < n0 ∧ n0 ≤ W.heap.size ∧ ∀ k, k < n -> b0 ≤ ms k ∧ ms k < n0
theorem JO.below {n b0 n0 g c sb cb : Nat} {ms : Nat -> Nat} {σ : Int -> Int -> Bool} {W W' : World} (h : JO n b0 n0 g c sb cb ms σ W) (hb : Below n0 W W') : JO n b0 n0 g c sb cb ms σ W' := by
 obtain ⟨h1, h2, h3, h4, h5⟩ := h.lo;exact ⟨(hb.cell (p := ⟨sb, 0, none⟩) h1).trans h.box, (hb.cell (p := ⟨cb, 0, none⟩) h3).trans h.cbox, fun k hk => (hb.cell (p := ⟨g, k, none⟩) h2).trans (h.row k hk), fun k hk => (h.sets k hk).block (hb.block _ (h5 k hk).2), h.inj, h1, h2, h3, Nat.le_trans h4 hb.size, h5⟩
theorem qci (n b0 n0 g c sb cb : Nat) (ms : Nat -> Nat) (σ : Int -> Int -> Bool) (a b : Nat) (W : World) (h : JO n b0 n0 g c sb cb ms σ W) (ha : a < n) (hb : b < n) (hn : n ≤ 100) (R : Ending -> World -> Prop)
 (hR : ∀ W', JO n b0 n0 g c sb cb ms (q41 σ a b) W' -> Mid b0 n0 W W' -> CKeepA W W' -> R (.returned (.tuple #[])) W') :
 Calls Tryz.prog 72 #[.int .i64 (a : Int), .int .i64 (b : Int), .pointer (some ⟨sb, 0, none⟩)] W R := by
 obtain ⟨HR, H⟩ := lh2 hR h;have H' := H;clear hR h
 by_cases hab : a = b
 ·subst hab
  have he : q41 σ (a : Int) (a : Int) = σ := by
   funext i j
   simp [q41]
  rw [he] at HR;clear he
  go_enter Tryz.func72, Tryz.ntmps72
  go_wp2;refine bodyPost_ret (results_none rfl _ _ _) rfl ?_;exact HR.out _ H.out (Grew.refl _ _) (CKeepA.refl _)
 ·have hab2 : ¬ (a : Int) = (b : Int) := by omega
  have hne : ((a : Int) == (b : Int)) = false := by simpa using hab2
  obtain ⟨C, hC⟩ : ∃ C : ROC, C = ⟨W, .slice (some ⟨g, 0, none⟩) n c, g, 0, n, c, a, b, ms a, ms b, σ a, σ b, sb, rfl, H.out.box, ha, hb, hn, by rw [Nat.zero_add]; exact H.out.row a ha, by rw [Nat.zero_add]; exact H.out.row b hb, fun e => hab (H.out.inj a b ha hb e)⟩ := ⟨_, rfl⟩;have HC := lh hC
  go_enter Tryz.func72, Tryz.ntmps72
  go_upto_region 1 with fail
  refine qnn (by kernel_rfl) ROS (RO C) (qah (by decide +kernel)) (by simp [ROS]) (qin (by decide +kernel)) ?start ?step ?stop
  case start =>
   subst hC;exact ⟨⟨rfl, rfl, rfl, Nat.le_refl _, fun _ _ _ => rfl⟩, ⟨Nat.le_refl _, fun _ _ h _ => h⟩, H.out.sets a ha, H.out.sets b hb, (fun h => by cases h), (fun h => by cases h), (fun h => by cases h), (fun h => by cases h), (fun h => by cases h), (fun h => by cases h), (fun h => by cases h), (fun h => by cases h), (fun h => by cases h), (fun h => by cases h), (fun h => by cases h), (fun h => by cases h), (fun h => by cases h), (fun h => by cases h), (fun h => by cases h), (fun h => by cases h), fun _ => rfl, fun _ => rfl⟩
  case step =>
   rintro d a' w' i o ho hd hall hag H;have hi18 : i < 18 := (Array.getElem?_eq_some_iff.1 ho).1;have c1 : C.a = a := by rw [hC]
   have c2 : C.b = b := by rw [hC]
   have c3 : C.sb = sb := by rw [hC]
   rcases (show i = 0 ∨ i = 1 ∨ i = 2 ∨ i = 3 ∨ i = 4 ∨ i = 5 ∨ i = 6 ∨ i = 7 ∨ i = 8 ∨ i = 9 ∨ i = 10 ∨ i = 11 ∨ i = 12 ∨ i = 13 ∨ i = 14 ∨ i = 15 ∨ i = 16 ∨ i = 17 by omega) with rfl | rfl | rfl | rfl | rfl | rfl | rfl | rfl | rfl | rfl | rfl | rfl | rfl | rfl | rfl | rfl | rfl | rfl
   all_goals cases ho
   ·exact H.q0 hag (by rw [c3]; rfl) rfl rfl
   ·exact H.q1 hag (by rw [c1]; rfl) rfl rfl
   ·exact H.q2 hag (hall { on := 0, ground := .data } (by simp) rfl) (hall { on := 1, ground := .data } (by simp) rfl) rfl rfl
   ·exact H.q3 hag (hall { on := 2, ground := .data } (by simp) rfl) rfl rfl
   ·exact H.q4 hag (by rw [c2]; rfl) rfl rfl
   ·exact H.q5 hag (by rw [c3]; rfl) rfl rfl
   ·exact H.q6 hag (by rw [c2]; rfl) rfl rfl
   ·exact H.q7 hag (hall { on := 5, ground := .data } (by simp) rfl) (hall { on := 6, ground := .data } (by simp) rfl) rfl rfl
   ·exact H.q8 hag (hall { on := 7, ground := .data } (by simp) rfl) rfl rfl
   ·exact H.q9 hag (by rw [c1]; rfl) rfl rfl
   ·exact H.q10 hag rfl rfl
   ·exact H.q11 hag rfl rfl
   ·exact H.q12 hag (hall { on := 3, ground := .data } (by simp) rfl) (hall { on := 4, ground := .data } (by simp) rfl) hd rfl rfl
   ·exact H.q13 hag (hall { on := 12, ground := .data } (by simp) rfl) rfl rfl
   ·exact H.q14 hag (hall { on := 3, ground := .data } (by simp) rfl) (hall { on := 13, ground := .data } (by simp) rfl) (hall { on := 10, ground := .data } (by simp) rfl) rfl rfl
   ·exact H.q15 hag (hall { on := 8, ground := .data } (by simp) rfl) (hall { on := 9, ground := .data } (by simp) rfl) hd rfl rfl
   ·exact H.q16 hag (hall { on := 15, ground := .data } (by simp) rfl) rfl rfl
   ·exact H.q17 hag (hall { on := 8, ground := .data } (by simp) rfl) (hall { on := 16, ground := .data } (by simp) rfl) (hall { on := 11, ground := .data } (by simp) rfl) rfl rfl
  case stop =>
   rintro d vs w' hall hold H;have hd : ∀ k, k < 18 -> d k = true := hall;have hsa := H.sa;have hsb := H.sb;have hgr := H.gr;have hck := H.ck;rw [hd 12 (by omega), if_pos rfl] at hsa;rw [hd 15 (by omega), if_pos rfl] at hsb;rw [hC] at hsa hsb hgr hck;clear hall hold H hd hC HC;dsimp only at hsa hsb hgr hck
   have hJ : JO n b0 n0 g c sb cb ms (q41 σ a b) w' := by
    obtain ⟨h1, h2, h3, h4, h5⟩ := H'.out.lo;refine ⟨hck.cell H'.out.box, hck.cell H'.out.cbox, fun k hk => hck.cell (H'.out.row k hk), fun k hk => ?_, H'.out.inj, h1, h2, h3, Nat.le_trans h4 hgr.size, h5⟩
    by_cases e1 : k = a
    ·subst e1;refine hsa.congr fun x => ?_;have : ¬ ((k : Int) = (b : Int)) := by omega
     simp [q1g, q41, this]
    ·by_cases e2 : k = b
     ·subst e2;refine hsb.congr fun x => ?_;have : ¬ ((a : Int) = (k : Int)) := by omega
      have h8 : ¬ ((k : Int) = (a : Int)) := by omega
      simp [q1g, q41, this, h8]
     ·have hb1 : w'.heap[ms k]? = W.heap[ms k]? := hgr.block _ (H'.out.sets k hk).lt (fun e => by
       rcases e with e | e
       ·exact e1 (H'.out.inj k a hk ha e)
       ·exact e2 (H'.out.inj k b hk hb e))
      refine ((H'.out.sets k hk).block hb1).congr fun x => ?_;have h7 : ¬ ((k : Int) = (a : Int)) := by omega
      have h8 : ¬ ((k : Int) = (b : Int)) := by omega
      simp [q41, h7, h8]
   have hM : Mid b0 n0 W w' := Grew.more hgr (fun j _ e => by
    obtain ⟨h1, h2, h3, h4, h5⟩ := H'.out.lo
    rcases e with rfl | rfl
    ·exact h5 a ha
    ·exact h5 b hb)
   have Hfin := lh (HR.out _ hJ hM hck);clear hJ hM hck hsa hsb hgr;go_wp2;refine bodyPost_ret (results_none rfl _ _ _) rfl ?_;exact Hfin.out
end Go.Proofs.YtdanebboiekieaaGreatDoor
namespace Go.Proofs.YtdanebboiekieaaGreatDoor
open Go.RowKit
open Go.Maps Go.WideShapes Go.MapKept Go.ChangeMaps Go.ChangeShapes
def condX (x : UIns) (r : Int) : Bool := !(decide (x.op = 1) && isR x.a r)
def meetS (σ : Int -> Int -> Bool) (d : Int) (P : Int -> Bool) : Int -> Int -> Bool := fun i j => σ i j || (!decide (i = j) && ((decide (i = d) && P j) || (decide (j = d) && P i)))
def updO (σ : Int -> Int -> Bool) (x : UIns) (X : Int -> Bool) : Int -> Int -> Bool := if x.dst < 0 then σ else meetS σ x.dst (fun r => X r && condX x r)
theorem qgz (σ : Int -> Int -> Bool) (d : Int) {P : Int -> Bool} (h : ∀ z, P z = false) : meetS σ d P = σ := by
 funext i j
 simp [meetS, h]
theorem qh0 (σ : Int -> Int -> Bool) (d r : Int) (P : Int -> Bool) : q41 (meetS σ d P) d r = meetS σ d (fun z => P z || decide (z = r)) := by
 funext i j
 rw [Bool.eq_iff_iff];simp only [q41, meetS, Bool.or_eq_true, Bool.and_eq_true, Bool.not_eq_true', decide_eq_false_iff_not, decide_eq_true_eq]
 constructor
 ·rintro ((h | ⟨h1, h2⟩) | ⟨h1, h2⟩)
  ·exact .inl h
  ·rcases h2 with ⟨h2, h3⟩ | ⟨h2, h3⟩
   ·exact .inr ⟨h1, .inl ⟨h2, .inl h3⟩⟩
   ·exact .inr ⟨h1, .inr ⟨h2, .inl h3⟩⟩
  ·rcases h2 with ⟨rfl, rfl⟩ | ⟨rfl, rfl⟩
   ·exact .inr ⟨h1, .inl ⟨rfl, .inr rfl⟩⟩
   ·exact .inr ⟨fun e => h1 e.symm, .inr ⟨rfl, .inr rfl⟩⟩
 ·rintro (h | ⟨h1, ⟨rfl, h2 | rfl⟩ | ⟨rfl, h2 | rfl⟩⟩)
  ·exact .inl (.inl h)
  ·exact .inl (.inr ⟨h1, .inl ⟨rfl, h2⟩⟩)
  ·exact .inr ⟨h1, .inl ⟨rfl, rfl⟩⟩
  ·exact .inl (.inr ⟨h1, .inr ⟨rfl, h2⟩⟩)
  ·exact .inr ⟨fun e => h1 e.symm, .inr ⟨rfl, rfl⟩⟩
theorem SetR.blocks {w w' : World} {B r : Nat} {X Lf : Int -> Bool} {cnt : Nat} (h : SetR w B r X Lf cnt) (hB : w'.heap[B]? = w.heap[B]?) (hr : w'.heap[r]? = w.heap[r]?) : SetR w' B r X Lf cnt := by
 obtain ⟨D, l, left, ⟨es, clock, since, seen, c0, hb, F, hs, hD, hr', rest⟩, h2⟩ := h;exact ⟨D, l, left, ⟨es, clock, since, seen, c0, hB.trans hb, F, hs, hD, hr.trans hr', rest⟩, h2⟩
theorem SetR.iter {w : World} {B r : Nat} {X Lf : Int -> Bool} {cnt : Nat} (h : SetR w B r X Lf cnt) : ∃ o : Obj, w.heap[r]? = some o ∧ o.isCells = false := by
 obtain ⟨D, l, left, ⟨es, clock, since, seen, c0, hb, F, hs, hD, hr', rest⟩, h2⟩ := h;exact ⟨_, hr', rfl⟩
theorem JO.to {n b0 n0 g c sb cb : Nat} {ms : Nat -> Nat} {σ τ : Int -> Int -> Bool} {W : World} (h : JO n b0 n0 g c sb cb ms σ W) (e : σ = τ) : JO n b0 n0 g c sb cb ms τ W := e ▸ h
theorem qjc (u : Unt) (n b0 n0 g c sb cb : Nat) (ms : Nat -> Nat) (σ : Int -> Int -> Bool) (x : UIns) (va : Value) (W : World) (mp : Nat) (X : Int -> Bool) (hx : InsOk u n x) (h : JO n b0 n0 g c sb cb ms σ W) (hn : n ≤ 100) (hmp : n0 ≤ mp) (hS : SetM W mp X) (hX : ∀ z, X z = true -> z < (n : Int)) (R : Ending -> World -> Prop)
 (hR : ∀ W', JO n b0 n0 g c sb cb ms (updO σ x X) W' -> Mid b0 n0 W W' -> CKeepA W W' -> R (.returned (.tuple #[])) W') :
 Calls Tryz.prog 74 #[.agg #[.int .i64 x.op, .int .i64 x.dst, .bool x.a.reg, .int .i64 x.a.n, .bool x.b.reg, .int .i64 x.b.n, .int .i64 x.fn, va], .map (some mp), .pointer (some ⟨cb, 0, none⟩)] W R := by
 obtain ⟨HR, H, HS, HX⟩ := lh4 hR h hS hX;have hdst := hx.dst;clear hR h hS hX hx;obtain ⟨W2, hW2, hb2, hv2⟩ := box1 W (.cells #[.int .i64 x.op, .int .i64 x.dst, .bool x.a.reg, .int .i64 x.a.n, .bool x.b.reg, .int .i64 x.b.n, .int .i64 x.fn, va] 71) rfl;have H2 := lh (H.out.below (hb2.mono H.out.lo.2.2.2.1));have HS2 := lh (HS.out.below hb2);obtain ⟨Hb2, Hv2⟩ := lh2 hb2 hv2;have HW2 := lh hW2.symm;have hz2 := hb2.size;have x0 : W2.cell? ⟨W.heap.size, 0, none⟩ = some (.int .i64 x.op) := cqq hv2;have x1 : W2.cell? ⟨W.heap.size, 1, none⟩ = some (.int .i64 x.dst) := cqq hv2;have lx := qa hv2;clear hW2 hb2 hv2
 by_cases hd : x.dst < 0
 ·have he : updO σ x X = σ := if_pos hd;rw [he] at HR;clear he
  go_enter Tryz.func74, Tryz.ntmps74
  go_upto_region 1 with fail
  rw [HW2.out];go_wp2;refine bodyPost_ret (results_none rfl _ _ _) rfl ?_;exact HR.out _ H2.out (Mid.of_below Hb2.out) (CKeepA.of_below Hb2.out)
 ·have he : updO σ x X = meetS σ x.dst (fun r => X r && condX x r) := if_neg hd;rw [he] at HR;clear he;obtain ⟨d, hdd⟩ : ∃ d : Nat, x.dst = (d : Int) := ⟨x.dst.toNat, by omega⟩;have hdn : d < n := by omega
  rw [hdd] at HR hd x1 ;have Hdd := lh hdd;clear hdd hdst
  go_enter Tryz.func74, Tryz.ntmps74
  go_upto_region 1 with fail
  rw [HW2.out]
  go_wp2_with (at_range; refine q4h rfl _ 115 rfl Tryz.underlying115 mp X rfl HS2.out ?_)
  intro w3 cnt hr3 hg3 hz3;have hb23 : Below W2.heap.size W2 w3 := (Below.refl W2.heap.size W2).grown hg3 (Nat.le_refl _) (fun k e => by cases e);have Hr3 := lh hr3;have H3 := lh (H2.out.below (hb23.mono H2.out.lo.2.2.2.1));have Hb23 := lh hb23;have Hv3 := lh ((hb23.block _ lx).trans Hv2.out);clear hr3 hg3 hb23 x0 x1
  go_wp2_with fail
  obtain ⟨vx, hvx⟩ : ∃ vx, vx = Value.agg #[.int .i64 x.op, .int .i64 x.dst, .bool x.a.reg, .int .i64 x.a.n, .bool x.b.reg, .int .i64 x.b.n, .int .i64 x.fn, va] := ⟨_, rfl⟩;rw [<- hvx];clear hvx
  go_loopg [] cnt (fun gh wr => ∃ Lf : Int -> Bool, Hid (SetR wr mp W2.heap.size X Lf gh) ∧ Hid (JO n b0 n0 g c sb cb ms (meetS σ (d : Int) (fun r => (X r && !Lf r) && condX x r)) wr) ∧ Hid (Grew (fun k => (b0 ≤ k ∧ k < n0) ∨ k = W2.heap.size) w3 wr) ∧ Hid (CKeepA w3 wr))
  case atStart => exact ⟨X, Hr3, lh (H3.out.to (qgz _ _ (fun z => by simp)).symm), lh (Grew.refl _ _), lh (CKeepA.refl _)⟩
  case round =>
   obtain ⟨Lf, HSr, HJr, HG, HC⟩ := hrel;have hzr : w3.heap.size ≤ wr.heap.size := HG.out.size
   go_wp2_with (at_next; refine q50 rfl _ rfl mp W2.heap.size X Lf gk rfl HSr.out ?_ ?_)
   ·intro hdone
    have he : meetS σ (d : Int) (fun r => (X r && !Lf r) && condX x r) = meetS σ (d : Int) (fun r => X r && condX x r) := by
     congr 1
     funext r
     rw [hdone r];simp
    have hM : Mid b0 n0 W wr := ⟨HG.out.os.trans (Hb23.out.os.trans Hb2.out.os), HG.out.tape.trans (Hb23.out.tape.trans Hb2.out.tape), HG.out.output.trans (Hb23.out.output.trans Hb2.out.output), by omega, fun k hk hx => (HG.out.block k (by omega) (by omega)).trans ((Hb23.out.block k (by omega)).trans (Hb2.out.block k hk))⟩;have Hfin := lh (HR.out wr (HJr.out.to he) hM ((CKeepA.of_below Hb2.out).trans ((CKeepA.of_below Hb23.out).trans HC.out)));clear hdone he hM;go_wp2;refine bodyPost_ret (results_none rfl _ _ _) rfl ?_;exact Hfin.out
   ·intro z w4 cnt4 hLz hz0 hz1 hs4 hlt4 hg4 hz4 hen4;obtain ⟨r, rfl⟩ : ∃ r : Nat, z = (r : Int) := ⟨z.toNat, by omega⟩;have hXr := HSr.out.sub _ hLz;have hrn : r < n := by have := HX.out _ hXr; omega
    have hn0 : n0 ≤ W.heap.size := H.out.lo.2.2.2.1;have hb4 : Below W2.heap.size wr w4 := (Below.refl _ _).grown hg4 (by omega) (fun k e => by cases e; exact Nat.le_refl _);have hJ4 := HJr.out.below (hb4.mono (by omega));have hck4 : CKeepA wr w4 := CKeepA.of_grown hg4 (fun k e => by cases e; exact HSr.out.iter);have hG4 : Grew (fun k => (b0 ≤ k ∧ k < n0) ∨ k = W2.heap.size) w3 w4 := Grew.trans HG.out ⟨hg4.os, hg4.tape, hg4.output, hg4.size, fun k hk hx => hg4.block k hk (fun e => hx (.inr (Option.some.inj e)))⟩ (fun _ _ h => h);have hv4 := (HC.out.trans hck4).blk Hv3.out;have x0 : w4.cell? ⟨W.heap.size, 0, none⟩ = some (.int .i64 x.op) := cqq hv4;have x1 : w4.cell? ⟨W.heap.size, 1, none⟩ = some (.int .i64 (d : Int)) := by rw [qb hv4, <- Hdd.out]; rfl
    have x2 : w4.cell? ⟨W.heap.size, 2, none⟩ = some (.bool x.a.reg) := cqq hv4;have x3 : w4.cell? ⟨W.heap.size, 3, none⟩ = some (.int .i64 x.a.n) := cqq hv4;have lx4 := qa hv4;have c0 := hJ4.cbox;have lc := World.block_lt_of_cell? w4 _ c0;obtain ⟨HS4, HJ4⟩ := lh2 hs4 hJ4;have HC4 := lh (HC.out.trans hck4);obtain ⟨HG4, Hlt4, HLz, HXr⟩ := lh4 hG4 hlt4 hLz hXr;clear hs4 hJ4 hck4 hG4 hlt4 hLz hXr hg4 hb4 hv4;obtain ⟨bb, hbb⟩ : ∃ bb, bb = condX x (r : Int) := ⟨_, rfl⟩;have Hbb := lh hbb;clear hbb
    go_upto_region 5 with fail
    go_cut [24] (fun s wx => s = .bool bb ∧ wx = w4)
    case first =>
     by_cases e1 : x.op = 1
     ·cases hr : x.a.reg
      ·have hb : bb = true := by rw [Hbb.out]; simp [condX, isR, hr]
       subst hb;go_wp2;go_meet;exact ⟨rfl, rfl⟩
      ·by_cases e2 : x.a.n = (r : Int)
       ·have hb : bb = false := by rw [Hbb.out]; simp [condX, isR, hr, e1, e2]
        subst hb;go_wp2;go_meet;exact ⟨rfl, rfl⟩
       ·have hb : bb = true := by rw [Hbb.out]; simp [condX, isR, hr, e2]
        subst hb;go_wp2;go_meet;exact ⟨rfl, rfl⟩
     ·have hb : bb = true := by rw [Hbb.out]; simp [condX, e1]
      subst hb;go_wp2;go_meet;exact ⟨rfl, rfl⟩
    case rest =>
     obtain ⟨rfl, rfl⟩ := hcut;rename World => w4
     have hst : ∀ z, ((X z && !(Lf z && !decide (z = (r : Int)))) && condX x z) = (((X z && !Lf z) && condX x z) || (decide (z = (r : Int)) && bb)) := fun z => by
      by_cases e : z = (r : Int)
      ·subst e;rw [HXr.out, HLz.out, <- Hbb.out];simp
      ·simp [e]
     have Hst := lh hst;clear hst x0 x2 x3
     cases bb
     ·have he : meetS σ (d : Int) (fun z => (X z && !(Lf z && !decide (z = (r : Int)))) && condX x z) = meetS σ (d : Int) (fun z => (X z && !Lf z) && condX x z) := by
       congr 1
       funext z
       rw [Hst.out];simp
      have HJ5 := lh (HJ4.out.to he.symm);clear he;go_wp2
      go_roundg cnt4
      case measure => exact Hlt4.out
      case rel => exact ⟨_, HS4, HJ5, HG4, HC4⟩
     ·have he : meetS σ (d : Int) (fun z => (X z && !(Lf z && !decide (z = (r : Int)))) && condX x z) = q41 (meetS σ (d : Int) (fun z => (X z && !Lf z) && condX x z)) (d : Int) (r : Int) := by
       rw [qh0]
       congr 1
       funext z
       rw [Hst.out];simp
      have He := lh he;clear he
      go_wp2_with fail
      refine qci n b0 n0 g c sb cb ms _ d r _ HJ4.out hdn hrn hn _ (fun w5 hJ5 hM5 hC5 => ?_);have HS5 := lh (HS4.out.blocks (hM5.block mp HS4.out.set.lt (by omega)) (hM5.block W2.heap.size HS4.out.lt (by omega)));have HJ5 := lh (hJ5.to He.out.symm);have HG5 := lh (Grew.trans HG4.out hM5 (fun _ _ h => .inl h));have HC5 := lh (HC4.out.trans hC5);clear hJ5 hM5 hC5 x1 c0;go_wp2
      go_roundg cnt4
      case measure => exact Hlt4.out
      case rel => exact ⟨_, HS5, HJ5, HG5, HC5⟩
end Go.Proofs.YtdanebboiekieaaGreatDoor
namespace Go.Proofs.YtdanebboiekieaaGreatDoor
open Go.RowKit
open Go.Maps Go.WideShapes Go.MapKept Go.ChangeMaps Go.ChangeShapes
structure JA (b0 n0 ob om : Nat) (Y : Int -> Bool) (W : World) : Prop where
 box : W.cell? ⟨ob, 0, none⟩ = some (.map (some om))
 set : SetM W om Y
 lo : ob < n0 ∧ n0 ≤ W.heap.size ∧ b0 ≤ om ∧ om < n0
theorem JA.below {b0 n0 ob om : Nat} {Y : Int -> Bool} {W W' : World} (h : JA b0 n0 ob om Y W) (hb : Below n0 W W') : JA b0 n0 ob om Y W' := by
 obtain ⟨h1, h2, h3, h4⟩ := h.lo;exact ⟨(hb.cell (p := ⟨ob, 0, none⟩) h1).trans h.box, h.set.block (hb.block _ h4), h1, Nat.le_trans h2 hb.size, h3, h4⟩
theorem JA.to {b0 n0 ob om : Nat} {Y Z : Int -> Bool} {W : World} (h : JA b0 n0 ob om Y W) (e : ∀ z, Y z = Z z) : JA b0 n0 ob om Z W := ⟨h.box, h.set.congr e, h.lo⟩
def updA (Y : Int -> Bool) (x : UIns) (X : Int -> Bool) : Int -> Bool := if x.op = 20 then fun z => Y z || (X z && !decide (z = x.dst)) else Y
theorem qhs (u : Unt) (n b0 n0 ob om : Nat) (Y : Int -> Bool) (x : UIns) (va : Value) (W : World) (mp : Nat) (X : Int -> Bool) (hx : InsOk u n x) (h : JA b0 n0 ob om Y W) (hmp : n0 ≤ mp) (hS : SetM W mp X) (R : Ending -> World -> Prop)
 (hR : ∀ W', JA b0 n0 ob om (updA Y x X) W' -> Mid b0 n0 W W' -> CKeepA W W' -> R (.returned (.tuple #[])) W') :
 Calls Tryz.prog 76 #[.agg #[.int .i64 x.op, .int .i64 x.dst, .bool x.a.reg, .int .i64 x.a.n, .bool x.b.reg, .int .i64 x.b.n, .int .i64 x.fn, va], .map (some mp), .pointer (some ⟨ob, 0, none⟩)] W R := by
 obtain ⟨HR, H, HS⟩ := lh3 hR h hS;clear hR h hS hx;obtain ⟨W2, hW2, hb2, hv2⟩ := box1 W (.cells #[.int .i64 x.op, .int .i64 x.dst, .bool x.a.reg, .int .i64 x.a.n, .bool x.b.reg, .int .i64 x.b.n, .int .i64 x.fn, va] 71) rfl;have H2 := lh (H.out.below (hb2.mono H.out.lo.2.1));have HS2 := lh (HS.out.below hb2);obtain ⟨Hb2, Hv2⟩ := lh2 hb2 hv2;have HW2 := lh hW2.symm;have hz2 := hb2.size;have x0 : W2.cell? ⟨W.heap.size, 0, none⟩ = some (.int .i64 x.op) := cqq hv2;have lx := qa hv2;clear hW2 hb2 hv2
 by_cases hop : x.op = 20
 ·have he : updA Y x X = fun z => Y z || (X z && !decide (z = x.dst)) := if_pos hop;rw [he] at HR;rw [hop] at x0;have Hop := lh hop;clear he hop
  go_enter Tryz.func76, Tryz.ntmps76
  go_upto_region 1 with fail
  rw [HW2.out]
  go_wp2_with (at_range; refine q4h rfl _ 115 rfl Tryz.underlying115 mp X rfl HS2.out ?_)
  intro w3 cnt hr3 hg3 hz3;have hb23 : Below W2.heap.size W2 w3 := (Below.refl W2.heap.size W2).grown hg3 (Nat.le_refl _) (fun k e => by cases e);have Hr3 := lh hr3;have H3 := lh (H2.out.below (hb23.mono H2.out.lo.2.1));have Hb23 := lh hb23;have Hv3 := lh ((hb23.block _ lx).trans Hv2.out);clear hr3 hg3 hb23 x0
  go_wp2_with fail
  obtain ⟨vx, hvx⟩ : ∃ vx, vx = Value.agg #[.int .i64 x.op, .int .i64 x.dst, .bool x.a.reg, .int .i64 x.a.n, .bool x.b.reg, .int .i64 x.b.n, .int .i64 x.fn, va] := ⟨_, rfl⟩;rw [<- hvx];clear hvx
  go_loopg [] cnt (fun gh wr => ∃ Lf : Int -> Bool, Hid (SetR wr mp W2.heap.size X Lf gh) ∧ Hid (JA b0 n0 ob om (fun z => Y z || ((X z && !Lf z) && !decide (z = x.dst))) wr) ∧ Hid (Grew (fun k => (b0 ≤ k ∧ k < n0) ∨ k = W2.heap.size) w3 wr) ∧ Hid (CKeepA w3 wr))
  case atStart => exact ⟨X, Hr3, lh (H3.out.to (fun z => by simp)), lh (Grew.refl _ _), lh (CKeepA.refl _)⟩
  case round =>
   obtain ⟨Lf, HSr, HJr, HG, HC⟩ := hrel;have hzr : w3.heap.size ≤ wr.heap.size := HG.out.size;have hn0 : n0 ≤ W.heap.size := H.out.lo.2.1
   go_wp2_with (at_next; refine q50 rfl _ rfl mp W2.heap.size X Lf gk rfl HSr.out ?_ ?_)
   ·intro hdone;have hM : Mid b0 n0 W wr := ⟨HG.out.os.trans (Hb23.out.os.trans Hb2.out.os), HG.out.tape.trans (Hb23.out.tape.trans Hb2.out.tape), HG.out.output.trans (Hb23.out.output.trans Hb2.out.output), by omega, fun k hk hx => (HG.out.block k (by omega) (by omega)).trans ((Hb23.out.block k (by omega)).trans (Hb2.out.block k hk))⟩;have Hfin := lh (HR.out wr (HJr.out.to (fun z => by rw [hdone z]; simp)) hM ((CKeepA.of_below Hb2.out).trans ((CKeepA.of_below Hb23.out).trans HC.out)));clear hdone hM;go_wp2;refine bodyPost_ret (results_none rfl _ _ _) rfl ?_;exact Hfin.out
   ·intro z w4 cnt4 hLz hz0 hz1 hs4 hlt4 hg4 hz4 hen4;have hXr := HSr.out.sub _ hLz;have hb4 : Below W2.heap.size wr w4 := (Below.refl _ _).grown hg4 (by omega) (fun k e => by cases e; exact Nat.le_refl _);have hJ4 := HJr.out.below (hb4.mono (by omega));have hck4 : CKeepA wr w4 := CKeepA.of_grown hg4 (fun k e => by cases e; exact HSr.out.iter);have hG4 : Grew (fun k => (b0 ≤ k ∧ k < n0) ∨ k = W2.heap.size) w3 w4 := Grew.trans HG.out ⟨hg4.os, hg4.tape, hg4.output, hg4.size, fun k hk hx => hg4.block k hk (fun e => hx (.inr (Option.some.inj e)))⟩ (fun _ _ h => h);have hv4 := (HC.out.trans hck4).blk Hv3.out;have x1 : w4.cell? ⟨W.heap.size, 1, none⟩ = some (.int .i64 x.dst) := cqq hv4;have lx4 := qa hv4;have c0 := hJ4.box;have lc := World.block_lt_of_cell? w4 _ c0;obtain ⟨HS4, HJ4⟩ := lh2 hs4 hJ4;have HC4 := lh (HC.out.trans hck4);obtain ⟨HG4, Hlt4, HLz, HXr⟩ := lh4 hG4 hlt4 hLz hXr;have Hz : Hid (0 ≤ z ∧ z < 100) := lh ⟨hz0, hz1⟩;clear hs4 hJ4 hck4 hG4 hlt4 hLz hXr hg4 hb4 hv4 hz0 hz1
    by_cases e : z = x.dst
    ·have he : ∀ y, (Y y || ((X y && !Lf y) && !decide (y = x.dst))) = (Y y || ((X y && !(Lf y && !decide (y = z))) && !decide (y = x.dst))) := fun y => by
      rw [<- e]
      by_cases e2 : y = z
      ·simp [e2]
      ·simp [e2]
     have HJ5 := lh (HJ4.out.to he);have hne : (z == x.dst) = true := by simpa using e
     clear he e;go_wp2
     go_roundg cnt4
     case measure => exact Hlt4.out
     case rel => exact ⟨_, HS4, HJ5, HG4, HC4⟩
    ·have he : ∀ y, q1g (fun y => Y y || ((X y && !Lf y) && !decide (y = x.dst))) z y = (Y y || ((X y && !(Lf y && !decide (y = z))) && !decide (y = x.dst))) := fun y => by
      unfold q1g
      by_cases e2 : y = z
      ·subst e2;simp [HXr.out, e]
      ·simp [e2]
     have He := lh he;have hne : (z == x.dst) = false := by simpa using e
     clear he e
     go_wp2_with (at_mapUpdate; refine q5x rfl _ _ _ rfl om _ z rfl rfl rfl Hz.out HJ4.out.set ?_)
     intro w5 hs5 ht5;have hg5 := ht5.grown;have hlo := HJ4.out.lo;have hC5 := q1j HJ4.out.set hg5;have HS5 := lh (HS4.out.blocks (hg5.block mp HS4.out.set.lt (fun e => by have := Option.some.inj e; omega)) (hg5.block W2.heap.size HS4.out.lt (fun e => by have := Option.some.inj e; omega)));have HJ5 : Hid (JA b0 n0 ob om (fun y => Y y || ((X y && !(Lf y && !decide (y = z))) && !decide (y = x.dst))) w5) := lh ⟨hC5.cell HJ4.out.box, hs5.congr He.out, hlo.1, Nat.le_trans hlo.2.1 hg5.size, hlo.2.2⟩;have HG5 := lh (Grew.trans HG4.out (Y := fun k => (b0 ≤ k ∧ k < n0) ∨ k = W2.heap.size) ⟨hg5.os, hg5.tape, hg5.output, hg5.size, fun k hk hx => hg5.block k hk (fun e => by have := Option.some.inj e; omega)⟩ (fun _ _ h => h));have HC5 := lh (HC4.out.trans hC5);clear hs5 ht5 hg5 hlo hC5 x1 c0;go_wp2
     go_roundg cnt4
     case measure => exact Hlt4.out
     case rel => exact ⟨_, HS5, HJ5, HG5, HC5⟩
 ·have he : updA Y x X = Y := if_neg hop;rw [he] at HR;have hne : (x.op == 20) = false := by simpa using hop
  clear he hop
  go_enter Tryz.func76, Tryz.ntmps76
  go_upto_region 1 with fail
  rw [HW2.out];go_wp2;refine bodyPost_ret (results_none rfl _ _ _) rfl ?_;exact HR.out _ H2.out (Mid.of_below Hb2.out) (CKeepA.of_below Hb2.out)
end Go.Proofs.YtdanebboiekieaaGreatDoor
