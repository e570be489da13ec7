/- Package peep: windows; what is live behind an instruction; what stands beside one. -/
import Derived.Test.YtkcmijnaheapdaaDoorBase
import Derived.Test.YtkcmijnaheapdaaDoorRows
import Derived.IntWalk
import Derived.Outline
import Derived.Deep.LoopGhost
import Derived.Deep.RegionLaw
import Derived.Deep.CutBlock
import Derived.Deep.DeepCutAuto
import Derived.Test.YtkcmijnaheapdaaDoorPk5
namespace Go.Proofs.YtkcmijnaheapdaaDoor
open Go.RowKit
set_option linter.unusedSimpArgs false
set_option linter.unusedVariables false

/-- A window on code, for reading. -/
structure Win (w : World) (l : List Mac) (p : Nat) (v vl vr vm : Value) : Prop where
  hp : w.heap[p]? = some (.cells #[v, vl, vr, vm] 185 (0, 0))
  code : rpMac.SL w w.heap.size l v
  live : rpInt.slice.SL w w.heap.size (liveL l) vl
  reach : rpBool.SL w w.heap.size (reachW l) vr
  mark : rpBool.SL w w.heap.size (markL l) vm
  ok : MacsOk l
  sh : Shapes w
theorem Win.below {w w' : World} {l : List Mac} {p : Nat} {v vl vr vm : Value} (h : Win w l p v vl vr vm) (hb : Below w.heap.size w w') : Win w' l p v vl vr vm where
  hp := (hb.block _ (blk_lt h.hp)).trans h.hp
  code := h.code.up hb hb.size
  live := h.live.up hb hb.size
  reach := h.reach.up hb hb.size
  mark := h.mark.up hb hb.size
  ok := h.ok
  sh := h.sh.up hb h.sh.1
/-- What the window's variable and an instruction hold. -/
structure WinC (w : World) (p : Nat) (v vl vr vm : Value) : Prop where
  c0 : w.cell? ⟨p, 0, none⟩ = some v
  c1 : w.cell? ⟨p, 1, none⟩ = some vl
  c2 : w.cell? ⟨p, 2, none⟩ = some vr
  c3 : w.cell? ⟨p, 3, none⟩ = some vm
  f0 : ∀ j, w.frozen? ⟨p, j, none⟩ = false
  lp : p < w.heap.size
theorem Win.cells {w : World} {l : List Mac} {p : Nat} {v vl vr vm : Value} (h : Win w l p v vl vr vm) : WinC w p v vl vr vm where
  c0 := by rw [blk_cell' h.hp]; rfl
  c1 := by rw [blk_cell' h.hp]; rfl
  c2 := by rw [blk_cell' h.hp]; rfl
  c3 := by rw [blk_cell' h.hp]; rfl
  f0 := fun j => by simp [World.frozen?, h.hp]
  lp := blk_lt h.hp
theorem Rp.SL.bool_at {w : World} {B : Nat} {xs : List Bool} {A : Option Addr} {n c k : Nat} (h : rpBool.SL w B xs (.slice A n c)) (hk : k < xs.length) : ∃ b off, A = some ⟨b, off, none⟩ ∧ b < B ∧ w.cell? ⟨b, off + k, none⟩ = some (.bool (atB xs k)) := by
  obtain ⟨b, off, cs, hA, hb, hr, hcs⟩ := h.at_ (List.getElem?_eq_getElem hk)
  refine ⟨b, off, hA, hb, ?_⟩
  cases hr
  have := hcs 0 _ rfl
  simpa [rpBool, atB, List.getD_eq_getElem?_getD, hk] using this
theorem Rp.SL.slice_at {α : Type} {r : Rp α} {w : World} {B : Nat} {xs : List (List α)} {A : Option Addr} {n c k : Nat} (h : r.slice.SL w B xs (.slice A n c)) (hk : k < xs.length) : ∃ b off u, A = some ⟨b, off, none⟩ ∧ b < B ∧ w.cell? ⟨b, off + k, none⟩ = some u ∧ r.SL w B xs[k] u := by
  obtain ⟨b, off, cs, hA, hb, ⟨u, rfl, hr⟩, hcs⟩ := h.at_ (List.getElem?_eq_getElem hk)
  refine ⟨b, off, u, hA, hb, ?_, hr⟩
  have := hcs 0 _ rfl
  simpa [Rp.slice] using this
/-- What a function that answers a bool of a number, with what it captures, has to do in worlds behind w. -/
def AsksI (f : FuncId) (caps : List Value) (p : Int → Bool) (xs : List Int) (w : World) : Prop :=
  Enters Tryd.prog f ∧ ∀ x ∈ xs, ∀ (W : World) (R : Ending → World → Prop), Below w.heap.size w W → (∀ W', Below W.heap.size W W' → R (.returned (.bool (p x))) W') → Calls Tryd.prog f (.int .i64 x :: caps).toArray W R
theorem any_take_snoc {p : Int → Bool} {xs : List Int} {k : Nat} (h : k < xs.length) : (xs.take (k + 1)).any p = ((xs.take k).any p || p xs[k]) := by
  rw [take_snoc' h, List.any_append]
  simp
set_option maxHeartbeats 400000 in
theorem IndexFuncI_calls (f : FuncId) (c1 c2 : Value) (p : Int → Bool) (v : Value) (xs : List Int) (w : World) (h : rpInt.SL w w.heap.size xs v) (hf : AsksI f [c1, c2] p xs w) (R : Ending → World → Prop)
    (hR : ∀ w' (r : Int), Below w.heap.size w w' → decide (0 ≤ r) = xs.any p → R (.returned (.int .i64 r)) w') :
    Calls Tryd.prog 163 #[v, .func (.func f) #[] #[c1, c2]] w R := by
  obtain ⟨hen, hf⟩ := hf
  have hcf := hen.run
  obtain ⟨A, n, rfl, hm, _, h⟩ := h.cases_
  have Hs := Lib.hid h
  have Hf := Lib.hid hf
  have HR := Lib.hid hR
  clear h hf hR
  go_enter Tryd.func163, Tryd.ntmps163
  go_wp2
  go_loopg [8] xs.length (fun gh i wr => ∃ k : Nat, k ≤ xs.length ∧ gh = xs.length - k ∧ i = .int .i64 k ∧ (xs.take k).any p = false ∧ Below w.heap.size w wr)
  case atStart => exact ⟨0, Nat.zero_le _, rfl, rfl, rfl, Below.refl _ _⟩
  case round =>
    obtain ⟨k, hk, rfl, rfl, ht, hbel⟩ := hrel
    have Ht := Lib.hid ht
    have Hb := Lib.hid hbel
    have hz := hbel.size
    clear ht
    by_cases hlt : k < xs.length
    · obtain ⟨b, off, rfl, hb, q0⟩ := Hs.out.int_at hlt
      have p0 := (hbel.cell (p := ⟨b, off + k, none⟩) hb).trans q0
      have hgd : xs.getD k 0 = xs[k] := by rw [List.getD_eq_getElem?_getD, List.getElem?_eq_getElem hlt]; rfl
      rw [hgd] at p0
      have Hst := Lib.hid (any_take_snoc (p := p) hlt)
      have Hx := Lib.hid (Hf.out xs[k] (List.getElem_mem hlt))
      generalize xs[k] = x at *
      have i1 : (k : Int) < (xs.length : Int) := by omega
      have i2 : (0 : Int) ≤ (k : Int) := by omega
      clear q0 hgd hbel
      go_wp2_with fail
      refine Hx.out _ _ Hb.out ?_
      intro w1 hb1
      have Hb1 := Lib.hid (Hb.out.trans (hb1.mono hz))
      clear hb1
      cases hp : p x
      · have Hst2 := Lib.hid (show (xs.take (k + 1)).any p = false by rw [Hst.out, Ht.out, hp]; rfl)
        clear hp
        go_wp2
        go_roundg (xs.length - (k + 1))
        case measure => omega
        case rel => exact ⟨k + 1, by omega, rfl, by go_num, Hst2.out, Hb1.out⟩
      · have hany : xs.any p = true := by
          have h1 : (xs.take (k + 1)).any p = true := by rw [Hst.out, hp]; simp
          rw [List.any_eq_true] at h1 ⊢
          obtain ⟨y, hy, h2⟩ := h1
          exact ⟨y, List.mem_of_mem_take hy, h2⟩
        have H1 := Lib.hid (HR.out w1 (k : Int) Hb1.out (by rw [hany]; simp))
        clear hany hp
        go_wp2
        exact H1.out
    · obtain rfl : k = xs.length := by omega
      rw [List.take_length] at Ht
      have H1 := Lib.hid (HR.out wr (-1) Hb.out (by rw [Ht.out]; rfl))
      go_wp2
      exact H1.out
set_option maxHeartbeats 400000 in
theorem ContainsFuncI_calls (f : FuncId) (c1 c2 : Value) (p : Int → Bool) (v : Value) (xs : List Int) (w : World) (h : rpInt.SL w w.heap.size xs v) (hf : AsksI f [c1, c2] p xs w) (R : Ending → World → Prop)
    (hR : ∀ w', Below w.heap.size w w' → R (.returned (.bool (xs.any p))) w') :
    Calls Tryd.prog 157 #[v, .func (.func f) #[] #[c1, c2]] w R := by
  have HR := Lib.hid hR
  clear hR
  go_enter Tryd.func157, Tryd.ntmps157
  go_wp2_with fail
  refine IndexFuncI_calls f c1 c2 p v xs _ h hf _ (fun w1 r hb1 hr => ?_)
  have Hr := Lib.hid hr
  have H1 := Lib.hid (HR.out w1 hb1)
  clear hr hb1 h hf
  go_wp2
  rw [Hr.out]
  exact H1.out

theorem liveRow_has (l : List Mac) (i r : Nat) (hr : r < 16) : decide ((r : Int) ∈ liveRow l i) = liveB l i r := by
  unfold liveRow
  rw [Bool.eq_iff_iff, decide_eq_true_eq, List.mem_map]
  constructor
  · rintro ⟨x, hx, e⟩
    have : x = r := Int.ofNat.inj e
    subst this
    exact (List.mem_filter.1 hx).2
  · intro h
    exact ⟨r, List.mem_filter.2 ⟨List.mem_range.2 hr, h⟩, rfl⟩
theorem liveL_at {l : List Mac} {k : Nat} (h : k < (liveL l).length) : (liveL l)[k] = liveRow l k := by
  have : (liveL l)[k]? = some (liveRow l k) := by
    unfold liveL liveTo at h ⊢
    rw [List.getElem?_map, List.getElem?_range (by simpa using h)]
    rfl
  rw [List.getElem?_eq_getElem h] at this
  exact Option.some.inj this
theorem beh_any {l : List Mac} (hok : MacsOk l) {i : Nat} (hi : i < l.length) (r : Nat) : (nextL l i).any (fun k => liveB l k.toNat r) = behB l i r := by
  rw [Bool.eq_iff_iff, List.any_eq_true, behB_iff]
  constructor
  · rintro ⟨k, hk, h⟩
    have hb := nextL_lt hok hi k hk
    refine ⟨k.toNat, (nextL_iff hi).1 (by rwa [Int.toNat_of_nonneg hb.1]), liveB_iff.1 h⟩
  · rintro ⟨k, hk, h⟩
    exact ⟨(k : Int), (nextL_iff hi).2 hk, by rw [Int.toNat_natCast]; exact liveB_iff.2 h⟩
theorem Contains_same (v : Value) (xs : List Int) (t : Int) (w : World) (h : rpInt.SL w w.heap.size xs v) : Calls Tryd.prog 107 #[v, .int .i64 t] w (fun e w' => e = .returned (.bool (decide (t ∈ xs))) ∧ w' = w) := Contains_calls v xs t w h _ ⟨rfl, rfl⟩
set_option maxHeartbeats 1000000 in
theorem beh1_calls {w : World} {l : List Mac} {p : Nat} {v vl vr vm : Value} (h : Win w l p v vl vr vm) (k r g1 g2 : Nat) (hk : k < l.length) (hr : r < 16) (h1 : w.cell? ⟨g1, 0, none⟩ = some (.pointer (some ⟨p, 0, none⟩))) (h2 : w.cell? ⟨g2, 0, none⟩ = some (.int .i64 (r : Int))) (R : Ending → World → Prop)
    (hR : ∀ w', Below w.heap.size w w' → R (.returned (.bool (liveB l k r))) w') :
    Calls Tryd.prog 158 #[.int .i64 (k : Int), .pointer (some ⟨g1, 0, none⟩), .pointer (some ⟨g2, 0, none⟩)] w R := by
  have C := h.cells
  have c0 := C.c0
  have c1 := C.c1
  have lp := C.lp
  obtain ⟨A, c, rfl, hmx, hcap, hs⟩ := h.code.cases_
  obtain ⟨A2, c2, rfl, hmx2, hcap2, hs2⟩ := h.live.cases_
  have hll : (liveL l).length = l.length := liveTo_len l l.length
  obtain ⟨b, off, u, rfl, hb, q, hu⟩ := hs2.slice_at (k := k) (by rw [hll]; exact hk)
  rw [liveL_at] at hu
  obtain ⟨A3, c3, rfl, hmx3, hcap3, hs3⟩ := hu.cases_
  have Hh := Lib.hid (liveRow_has l k r hr)
  generalize hN : (liveL l).length = N at *
  subst hll
  generalize liveRow l k = L at *
  have Hs3 := Lib.hid hs3
  have HR := Lib.hid hR
  have hl1 := World.block_lt_of_cell? w _ h1
  have hl2 := World.block_lt_of_cell? w _ h2
  have i0 : (0 : Int) ≤ (k : Int) := by omega
  have i1 : (k : Int) < (l.length : Int) := by omega
  have i2 : decide (k < l.length) = true := by simpa using hk
  clear hR hs hs2 hs3 hu C h
  go_enter Tryd.func158, Tryd.ntmps158
  go_wp2
  go_quiet ((go_at_call 107; exact Calls.quiet_of_same (Contains_same _ L (r : Int) _ (Hs3.out.up (below_drewN (Below.refl _ _) _) (Nat.le_refl _)))))
  go_wp2
  rw [Hh.out]
  exact HR.out _ bl0
set_option maxHeartbeats 1000000 in
theorem behind_calls {w : World} {l : List Mac} {p : Nat} {v vl vr vm : Value} (h : Win w l p v vl vr vm) (i r : Nat) (hi : i < l.length) (hr : r < 16) (R : Ending → World → Prop)
    (hR : ∀ w', Below w.heap.size w w' → R (.returned (.bool (behB l i r))) w') :
    Calls Tryd.prog 147 #[.pointer (some ⟨p, 0, none⟩), .int .i64 (i : Int), .int .i64 (r : Int)] w R := by
  have C := h.cells
  have c0 := C.c0
  have lp := C.lp
  have hok := h.ok
  have H := Lib.hid h
  have HR := Lib.hid hR
  have Hany := Lib.hid (beh_any hok hi r)
  have hlt := nextL_lt hok hi
  clear hR C h
  go_enter Tryd.func147, Tryd.ntmps147
  go_wp2_with fail
  refine Next_calls _ l i hi hok _ (H.out.below (by exact bl0)).code (H.out.below (by exact bl0)).sh _ ?_
  intro w5 v5 hb5 hks _
  have Hlt := Lib.hid hlt
  clear hlt
  generalize nextL l i = ks at *
  have Hks := Lib.hid hks
  have hb5' : Below w.heap.size w w5 := (by exact bl0 : Below w.heap.size w ((w.alloc (Obj.cells #[.pointer (some ⟨p, 0, none⟩)] 179)).alloc (Obj.cells #[.int .i64 (r : Int)] 3))).trans (hb5.mono (by simp; omega))
  have g1 : w5.cell? ⟨w.heap.size, 0, none⟩ = some (.pointer (some ⟨p, 0, none⟩)) := by rw [hb5.cell (by simp; omega)]; simp
  have g2 : w5.cell? ⟨w.heap.size + 1, 0, none⟩ = some (.int .i64 (r : Int)) := by rw [hb5.cell (by simp)]; simp
  have H5 := Lib.hid (H.out.below hb5')
  have Hb5 := Lib.hid hb5'
  have hz5 := hb5'.size
  have G1 := Lib.hid g1
  have G2 := Lib.hid g2
  have hen : Enters Tryd.prog 158 := ⟨_, Tryd.func158, by kernel_rfl, rfl⟩
  have hl1 := World.block_lt_of_cell? w5 _ g1
  have hl2 := World.block_lt_of_cell? w5 _ g2
  clear hb5 hks hb5' g1 g2
  go_wp2_with fail
  refine ContainsFuncI_calls 158 (.pointer (some ⟨w.heap.size, 0, none⟩)) (.pointer (some ⟨w.heap.size + 1, 0, none⟩)) (fun k => liveB l k.toNat r) _ ks _ Hks.out ⟨hen, fun x hx W R' hbW hR' => ?_⟩ _ (fun w6 hb6 => ?_)
  · have hx0 := Hlt.out x hx
    obtain ⟨y, rfl⟩ : ∃ y : Nat, x = (y : Int) := ⟨x.toNat, by omega⟩
    simp only [Int.toNat_natCast] at hR'
    exact beh1_calls (H5.out.below hbW) y r w.heap.size (w.heap.size + 1) (by omega) hr ((hbW.cell hl1).trans G1.out) ((hbW.cell hl2).trans G2.out) R' hR'
  · have H1 := Lib.hid (HR.out w6 (Hb5.out.trans (hb6.mono hz5)))
    rw [Hany.out] 
    clear hb6
    go_wp2
    exact H1.out
end Go.Proofs.YtkcmijnaheapdaaDoor
