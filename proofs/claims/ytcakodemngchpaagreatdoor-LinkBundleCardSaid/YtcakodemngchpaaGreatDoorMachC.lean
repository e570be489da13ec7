/- machine.load's questions of names and of calls. machine.load, of an image that may be. Images that may be, as the machine takes them: their codes, their memory. Appends onto a row of ints of the call's own: of a slice's words, and of so many noughts. -/
import Derived.Test.YtcakodemngchpaaGreatDoorBase
import Derived.Test.YtcakodemngchpaaGreatDoorRows
import Derived.IntWalk
import Derived.Outline
import Derived.Deep.LoopGhost
import Derived.Test.YtcakodemngchpaaGreatDoorPlainA
import Derived.Test.YtcakodemngchpaaGreatDoorGlobA
import Derived.Test.YtcakodemngchpaaGreatDoorLinkY
import Derived.Deep.CutBlock
import Derived.Deep.DeepCutAuto
import Derived.Deep.RegionHeld3
import Derived.Deep.RegionLaw
import Derived.Test.YtcakodemngchpaaGreatDoorLawI
import Derived.Test.YtcakodemngchpaaGreatDoorMachA
import Derived.Lib.AppendZeros
import Derived.Lib.AppendZerosOnto
import Derived.Deep.AppendLies
import Derived.Laws.AppendOwnNone
import Derived.Test.YtcakodemngchpaaGreatDoorCopyA
/- machine.load's questions of names and of calls. -/
namespace Go.Proofs.YtcakodemngchpaaGreatDoor
open Go.RowKit
set_option linter.unusedSimpArgs false
set_option linter.unusedVariables false

set_option maxHeartbeats 1000000 in
theorem closGL_calls (n : ByteArray) (z : Int) (v : Value) (nm : ByteArray) (M : Nat) (w : World) (hM : M < w.heap.size) (hc : w.cell? ⟨M, 0, none⟩ = some (.string nm)) (R : Ending → World → Prop)
    (hR : ∀ w', Below w.heap.size w w' → R (.returned (.bool (decide (n = nm)))) w') :
    Calls Tryz.prog 91 #[.agg #[.string n, .int .i64 z, v], .pointer (some ⟨M, 0, none⟩)] w R := by
  have HR := Lib.hid hR
  clear hR
  go_enter Tryz.func91, Tryz.ntmps91
  go_wp2
  rw [name_eq]
  exact HR.out _ bl0
set_option maxHeartbeats 1000000 in
theorem indexGL_calls (v : Value) (xs : List Global) (nm : ByteArray) (M : Nat) (w : World) (h : rpGlobal.SL w w.heap.size xs v) (hc : w.cell? ⟨M, 0, none⟩ = some (.string nm)) (R : Ending → World → Prop)
    (hR : ∀ w' r, Below w.heap.size w w' → (decide ((0 : Int) ≤ r) = hasG xs nm) → R (.returned (.int .i64 r)) w') :
    Calls Tryz.prog 87 #[v, .func (.func 91) #[] #[.pointer (some ⟨M, 0, none⟩)]] w R := by
  have hM : M < w.heap.size := World.block_lt_of_cell? w _ hc
  obtain ⟨A, c, rfl, hm, hcap, hs⟩ := h.cases_
  have Hs := Lib.hid hs
  have HR := Lib.hid hR
  have Hc := Lib.hid hc
  clear hR h hs hc
  go_enter Tryz.func87, Tryz.ntmps87
  go_wp2
  go_loopg [5, 8] xs.length (fun g j i wr => ∃ k : Nat, k ≤ xs.length ∧ g = xs.length - k ∧ i = .int .i64 k ∧ hasG (xs.take k) nm = false ∧ Below w.heap.size w wr)
  case atStart => exact ⟨0, Nat.zero_le _, rfl, rfl, rfl, Below.refl _ _⟩
  case round =>
    obtain ⟨k, hk, rfl, rfl, ht, hbel⟩ := hrel
    have Ht := Lib.hid ht
    have Hb := Lib.hid hbel
    have hz := hbel.size
    clear ht
    by_cases hlt : k < xs.length
    · obtain ⟨b, off, g, v1, rfl, hb, e, h1, q0, q1, q2⟩ := Hs.out.global_at hlt
      have p0 := (hbel.cell (p := ⟨b, off + k * 3, none⟩) hb).trans q0
      have p1 := (hbel.cell (p := ⟨b, off + k * 3 + 1, none⟩) hb).trans q1
      have p2 := (hbel.cell (p := ⟨b, off + k * 3 + 2, none⟩) hb).trans q2
      have pm := Lib.hid ((hbel.cell (p := ⟨M, 0, none⟩) hM).trans Hc.out)
      have Hst : Hid (hasG (xs.take (k + 1)) nm = decide (g.name = nm)) := Lib.hid (by
        have := any_step (fun g : Global => decide (g.name = nm)) e
        unfold hasG
        rw [this]
        have h0 := Ht.out
        unfold hasG at h0
        rw [h0, Bool.false_or])
      have i1 : (0 : Int) ≤ (k : Int) := Int.natCast_nonneg _
      have i2 : (k : Int) < (xs.length : Int) := by omega
      clear q0 q1 q2 e hbel
      go_wp2_with fail
      refine closGL_calls _ _ _ nm M _ (by omega) pm.out _ (fun w1 hb1 => ?_)
      have hb2 := Hb.out.trans (hb1.mono hz)
      have Hb2 := Lib.hid hb2
      clear hb1 hb2
      generalize hx : decide (g.name = nm) = x at *
      have Hx := Lib.hid hx
      clear hx
      cases x
      · go_wp2
        go_roundg (xs.length - (k + 1))
        case measure => omega
        case rel => exact ⟨k + 1, hlt, rfl, by go_num, Hst.out, Hb2.out⟩
      · have hfin := Lib.hid (HR.out)
        go_wp2
        refine hfin.out _ _ Hb2.out ?_
        rw [hasG, any_of_take _ Hst.out]
        exact decide_eq_true i1
    · obtain rfl : k = xs.length := by omega
      rw [List.take_length] at Ht
      have Hb2 := Lib.hid hbel
      clear hbel
      go_wp2
      refine HR.out _ _ Hb2.out ?_
      rw [Ht.out]
      rfl
set_option maxHeartbeats 1000000 in
theorem containsGL_calls (v : Value) (xs : List Global) (nm : ByteArray) (M : Nat) (w : World) (h : rpGlobal.SL w w.heap.size xs v) (hc : w.cell? ⟨M, 0, none⟩ = some (.string nm)) (R : Ending → World → Prop)
    (hR : ∀ w', Below w.heap.size w w' → R (.returned (.bool (hasG xs nm))) w') :
    Calls Tryz.prog 54 #[v, .func (.func 91) #[] #[.pointer (some ⟨M, 0, none⟩)]] w R := by
  have HR := Lib.hid hR
  clear hR
  go_enter Tryz.func54, Tryz.ntmps54
  go_wp2_with fail
  refine indexGL_calls v xs nm M _ h hc _ (fun w1 r hb1 hr => ?_)
  have Hf := Lib.hid (HR.out _ hb1)
  have Hr := Lib.hid hr
  clear hr hb1 h
  go_wp2
  rw [Hr.out]
  exact Hf.out

def hasR (l : List Routine) (nm : ByteArray) : Bool := l.any fun r => decide (r.name = nm)
set_option maxHeartbeats 1000000 in
theorem closRL_calls (n : ByteArray) (v : Value) (nm : ByteArray) (M : Nat) (w : World) (hM : M < w.heap.size) (hc : w.cell? ⟨M, 0, none⟩ = some (.string nm)) (R : Ending → World → Prop)
    (hR : ∀ w', Below w.heap.size w w' → R (.returned (.bool (decide (n = nm)))) w') :
    Calls Tryz.prog 93 #[.agg #[.string n, v], .pointer (some ⟨M, 0, none⟩)] w R := by
  have HR := Lib.hid hR
  clear hR
  go_enter Tryz.func93, Tryz.ntmps93
  go_wp2
  rw [name_eq]
  exact HR.out _ bl0
set_option maxHeartbeats 1000000 in
theorem indexRL_calls (v : Value) (xs : List Routine) (nm : ByteArray) (M : Nat) (w : World) (h : rpRoutine.SL w w.heap.size xs v) (hc : w.cell? ⟨M, 0, none⟩ = some (.string nm)) (R : Ending → World → Prop)
    (hR : ∀ w' r, Below w.heap.size w w' → (decide ((0 : Int) ≤ r) = hasR xs nm) → R (.returned (.int .i64 r)) w') :
    Calls Tryz.prog 117 #[v, .func (.func 93) #[] #[.pointer (some ⟨M, 0, none⟩)]] w R := by
  have hM : M < w.heap.size := World.block_lt_of_cell? w _ hc
  obtain ⟨A, c, rfl, hm, hcap, hs⟩ := h.cases_
  have Hs := Lib.hid hs
  have HR := Lib.hid hR
  have Hc := Lib.hid hc
  clear hR h hs hc
  go_enter Tryz.func117, Tryz.ntmps117
  go_wp2
  go_loopg [5, 8] xs.length (fun g j i wr => ∃ k : Nat, k ≤ xs.length ∧ g = xs.length - k ∧ i = .int .i64 k ∧ hasR (xs.take k) nm = false ∧ Below w.heap.size w wr)
  case atStart => exact ⟨0, Nat.zero_le _, rfl, rfl, rfl, Below.refl _ _⟩
  case round =>
    obtain ⟨k, hk, rfl, rfl, ht, hbel⟩ := hrel
    have Ht := Lib.hid ht
    have Hb := Lib.hid hbel
    have hz := hbel.size
    clear ht
    by_cases hlt : k < xs.length
    · obtain ⟨b, off, g, v1, rfl, hb, e, h1, q0, q1⟩ := Hs.out.routine_at hlt
      have p0 := (hbel.cell (p := ⟨b, off + k * 2, none⟩) hb).trans q0
      have p1 := (hbel.cell (p := ⟨b, off + k * 2 + 1, none⟩) hb).trans q1
      have pm := Lib.hid ((hbel.cell (p := ⟨M, 0, none⟩) hM).trans Hc.out)
      have Hst : Hid (hasR (xs.take (k + 1)) nm = decide (g.name = nm)) := Lib.hid (by
        have := any_step (fun g : Routine => decide (g.name = nm)) e
        unfold hasR
        rw [this]
        have h0 := Ht.out
        unfold hasR at h0
        rw [h0, Bool.false_or])
      have i1 : (0 : Int) ≤ (k : Int) := Int.natCast_nonneg _
      have i2 : (k : Int) < (xs.length : Int) := by omega
      clear q0 q1 e hbel
      go_wp2_with fail
      refine closRL_calls _ _ nm M _ (by omega) pm.out _ (fun w1 hb1 => ?_)
      have hb2 := Hb.out.trans (hb1.mono hz)
      have Hb2 := Lib.hid hb2
      clear hb1 hb2
      generalize hx : decide (g.name = nm) = x at *
      have Hx := Lib.hid hx
      clear hx
      cases x
      · go_wp2
        go_roundg (xs.length - (k + 1))
        case measure => omega
        case rel => exact ⟨k + 1, hlt, rfl, by go_num, Hst.out, Hb2.out⟩
      · have hfin := Lib.hid (HR.out)
        go_wp2
        refine hfin.out _ _ Hb2.out ?_
        rw [hasR, any_of_take _ Hst.out]
        exact decide_eq_true i1
    · obtain rfl : k = xs.length := by omega
      rw [List.take_length] at Ht
      have Hb2 := Lib.hid hbel
      clear hbel
      go_wp2
      refine HR.out _ _ Hb2.out ?_
      rw [Ht.out]
      rfl
set_option maxHeartbeats 1000000 in
theorem containsRL_calls (v : Value) (xs : List Routine) (nm : ByteArray) (M : Nat) (w : World) (h : rpRoutine.SL w w.heap.size xs v) (hc : w.cell? ⟨M, 0, none⟩ = some (.string nm)) (R : Ending → World → Prop)
    (hR : ∀ w', Below w.heap.size w w' → R (.returned (.bool (hasR xs nm))) w') :
    Calls Tryz.prog 92 #[v, .func (.func 93) #[] #[.pointer (some ⟨M, 0, none⟩)]] w R := by
  have HR := Lib.hid hR
  clear hR
  go_enter Tryz.func92, Tryz.ntmps92
  go_wp2_with fail
  refine indexRL_calls v xs nm M _ h hc _ (fun w1 r hb1 hr => ?_)
  have Hf := Lib.hid (HR.out _ hb1)
  have Hr := Lib.hid hr
  clear hr hb1 h
  go_wp2
  rw [Hr.out]
  exact Hf.out

/-- Does an instruction call a routine that is not there? -/
def farM (N : Int) (m : Mac) : Bool := decide (m.op = 44) && decide (N ≤ m.n)
set_option maxHeartbeats 1000000 in
theorem closML_calls (m : Mac) (A : Option Addr) (N c M : Nat) (w : World) (hM : M < w.heap.size) (hc : w.cell? ⟨M, 1, none⟩ = some (.slice A N c)) (R : Ending → World → Prop)
    (hR : ∀ w', Below w.heap.size w w' → R (.returned (.bool (farM N m))) w') :
    Calls Tryz.prog 94 #[.agg #[.int .i64 m.op, .int .i64 m.dst, .int .i64 m.a, .int .i64 m.b, .int .i64 m.n], .pointer (some ⟨M, 0, none⟩)] w R := by
  have HR := Lib.hid hR
  clear hR
  have hne : M ≠ w.heap.size := by omega
  unfold farM at HR
  by_cases h44 : m.op = 44
  · have h44b : (m.op == 44) = true := by simp [h44]
    have e : (decide (m.op = 44)) = true := decide_eq_true h44
    rw [e, Bool.true_and] at HR
    clear e h44
    go_enter Tryz.func94, Tryz.ntmps94
    go_wp2
    exact HR.out _ bl0
  · have h44b : (m.op == 44) = false := by simp [h44]
    have e : (decide (m.op = 44)) = false := decide_eq_false h44
    rw [e, Bool.false_and] at HR
    clear e h44
    go_enter Tryz.func94, Tryz.ntmps94
    go_wp2
    exact HR.out _ bl0
def anyFar (N : Int) (l : List Mac) : Bool := l.any (farM N)
set_option maxHeartbeats 1000000 in
theorem indexML_calls (v : Value) (xs : List Mac) (A : Option Addr) (N c0 M : Nat) (w : World) (h : rpMac.SL w w.heap.size xs v) (hc : w.cell? ⟨M, 1, none⟩ = some (.slice A N c0)) (hno : anyFar N xs = false) (R : Ending → World → Prop)
    (hR : ∀ w', Below w.heap.size w w' → R (.returned (.int .i64 (-1))) w') :
    Calls Tryz.prog 118 #[v, .func (.func 94) #[] #[.pointer (some ⟨M, 0, none⟩)]] w R := by
  have hM : M < w.heap.size := World.block_lt_of_cell? w _ hc
  obtain ⟨A1, c, rfl, hm, hcap, hs⟩ := h.cases_
  have Hs := Lib.hid hs
  have HR := Lib.hid hR
  have Hc := Lib.hid hc
  have Hno := Lib.hid hno
  clear hR h hs hc hno
  go_enter Tryz.func118, Tryz.ntmps118
  go_wp2
  go_loopg [5, 8] xs.length (fun g j i wr => ∃ k : Nat, k ≤ xs.length ∧ g = xs.length - k ∧ i = .int .i64 k ∧ Below w.heap.size w wr)
  case atStart => exact ⟨0, Nat.zero_le _, rfl, rfl, Below.refl _ _⟩
  case round =>
    obtain ⟨k, hk, rfl, rfl, hbel⟩ := hrel
    have Hb := Lib.hid hbel
    have hz := hbel.size
    by_cases hlt : k < xs.length
    · obtain ⟨b, off, m, rfl, hb, e, q0, q1, q2, q3, q4⟩ := Hs.out.mac_at hlt
      have p0 := (hbel.cell (p := ⟨b, off + k * 5, none⟩) hb).trans q0
      have p1 := (hbel.cell (p := ⟨b, off + k * 5 + 1, none⟩) hb).trans q1
      have p2 := (hbel.cell (p := ⟨b, off + k * 5 + 2, none⟩) hb).trans q2
      have p3 := (hbel.cell (p := ⟨b, off + k * 5 + 3, none⟩) hb).trans q3
      have p4 := (hbel.cell (p := ⟨b, off + k * 5 + 4, none⟩) hb).trans q4
      have pm := Lib.hid ((hbel.cell (p := ⟨M, 1, none⟩) hM).trans Hc.out)
      have hfar : Hid (farM (N : Int) m = false) := Lib.hid (by
        have := List.any_eq_false.1 Hno.out m (List.mem_of_getElem? e)
        simpa using this)
      have i1 : (0 : Int) ≤ (k : Int) := Int.natCast_nonneg _
      have i2 : (k : Int) < (xs.length : Int) := by omega
      clear q0 q1 q2 q3 q4 e hbel
      go_wp2_with fail
      refine closML_calls m A N c0 M _ (by omega) pm.out _ (fun w1 hb1 => ?_)
      rw [hfar.out]
      have hb2 := Hb.out.trans (hb1.mono hz)
      have Hb2 := Lib.hid hb2
      clear hb1 hb2
      go_wp2
      go_roundg (xs.length - (k + 1))
      case measure => omega
      case rel => exact ⟨k + 1, hlt, rfl, by go_num, Hb2.out⟩
    · obtain rfl : k = xs.length := by omega
      have Hb2 := Lib.hid hbel
      clear hbel
      go_wp2
      exact HR.out _ Hb2.out
set_option maxHeartbeats 1000000 in
theorem containsML_calls (v : Value) (xs : List Mac) (A : Option Addr) (N c0 M : Nat) (w : World) (h : rpMac.SL w w.heap.size xs v) (hc : w.cell? ⟨M, 1, none⟩ = some (.slice A N c0)) (hno : anyFar N xs = false) (R : Ending → World → Prop)
    (hR : ∀ w', Below w.heap.size w w' → R (.returned (.bool false)) w') :
    Calls Tryz.prog 95 #[v, .func (.func 94) #[] #[.pointer (some ⟨M, 0, none⟩)]] w R := by
  have HR := Lib.hid hR
  clear hR
  go_enter Tryz.func95, Tryz.ntmps95
  go_wp2_with fail
  refine indexML_calls v xs A N c0 M _ h hc hno _ (fun w1 hb1 => ?_)
  have Hf := Lib.hid (HR.out _ hb1)
  clear hb1 h
  go_wp2
  exact Hf.out
end Go.Proofs.YtcakodemngchpaaGreatDoor

/- machine.load, of an image that may be. -/
namespace Go.Proofs.YtcakodemngchpaaGreatDoor
open Go.RowKit
set_option linter.unusedSimpArgs false
set_option linter.unusedVariables false

/-- The codes of an image's routines. -/
def codesI (im : Image) : List (List Mac) := im.routines.map fun r => (readL r.code).getD []
theorem codesI_len (im : Image) : (codesI im).length = im.routines.length := by unfold codesI; simp
theorem codesI_take {im : Image} {k : Nat} {r : Routine} {c : List Mac} (h : im.routines[k]? = some r) (hc : readL r.code = some c) : (codesI im).take (k + 1) = (codesI im).take k ++ [c] := by
  have h1 : (codesI im)[k]? = some c := by
    unfold codesI
    rw [List.getElem?_map, h]
    simp [hc]
  obtain ⟨hk, e⟩ := List.getElem?_eq_some_iff.1 h1
  rw [List.take_succ_eq_append_getElem hk, e]
theorem hasR_none {l : List Routine} {k : Nat} {nm : ByteArray} (h : ∀ (j : Nat) (x : Routine), j < k → l[j]? = some x → x.name ≠ nm) : hasR (l.take k) nm = false := by
  unfold hasR
  rw [List.any_eq_false]
  intro x hx
  obtain ⟨j, hj, e⟩ := List.mem_iff_getElem.1 hx
  rw [List.length_take] at hj
  rw [List.getElem_take] at e
  have := h j x (by omega) (by rw [List.getElem?_eq_getElem (by omega), e])
  simpa using this
theorem anyFar_none {N : Int} {l : List Mac} (h : ∀ x ∈ l, x.op = 44 → x.n < N) : anyFar N l = false := by
  unfold anyFar
  rw [List.any_eq_false]
  intro x hx
  unfold farM
  by_cases h44 : x.op = 44
  · have := h x hx h44
    simp [h44]
    omega
  · simp [h44]

theorem res_slM {fn : Func} {t p : Tmp} (h : fn.results = #[.tmp t, .cell p 27]) {tmps : Array Value} {b : Nat} {w : World} {v x y : Value} {T : TypeId} (ht : tmps.getD t undef = v) (hp : tmps.getD p undef = .pointer (some ⟨b, 0, none⟩))
    (hc : w.heap[b]? = some (.cells #[x, y] T (0, 0))) : (results fn tmps).run Tryz.prog w = .ok (.tuple #[v, .agg #[x, y]]) w :=
  res_slice_Fault h ht hp (cells_blk hc)
theorem info_MacRow : (Tryz.prog.info? 55).map (fun i => (i.zero, i.size, i.bytes)) = some (some (.slice none 0 0), 1, 24) := by kernel_rfl
set_option maxRecDepth 100000 in
set_option maxHeartbeats 8000000 in
theorem load_calls (im : Image) (v1 v2 : Value) (w : World) (h1 : rpGlobal.SL w w.heap.size im.globals v1) (h2 : rpRoutine.SL w w.heap.size im.routines v2) (ok : ImgOk im) (hS : Shapes w) (R : Ending → World → Prop)
    (hR : ∀ w' v, Below w.heap.size w w' → rpMac.slice.SLF w' w.heap.size w'.heap.size (codesI im) v → R (.returned (.tuple #[v, .agg #[.int .i64 0, .int .i64 0]])) w') :
    Calls Tryz.prog 70 #[.agg #[v1, v2]] w R := by
  have h0 := hS.1
  obtain ⟨A1, c1, rfl, _, _, h1⟩ := h1.cases_
  obtain ⟨A2, c2, rfl, _, hcap2, h2⟩ := h2.cases_
  obtain ⟨iC, hiC, zC0, zC1, zC2⟩ := info_parts info_MacRow
  have HR := Lib.hid hR
  have HSh := Lib.hid hS
  have Hok := Lib.hid ok
  have hl0 := ok.some_
  have hl40 := ok.few
  have hz0b : ((im.routines.length : Int) == 0) = false := by simp; intro h; rw [h] at hl0; simp at hl0
  have h40b : decide ((40 : Int) < (im.routines.length : Int)) = false := decide_eq_false (by omega)
  have h40n : ¬ ((40 : Int) < (im.routines.length : Int)) := by omega
  obtain ⟨W0, hW0⟩ : ∃ W0, W0 = (w.alloc (Obj.cells #[.slice A1 im.globals.length c1, .slice A2 im.routines.length c2] 43)).alloc (Obj.cells #[.int .i64 0, .int .i64 0] 27) := ⟨_, rfl⟩
  have hb0 : Below w.heap.size w W0 := by subst hW0; exact bl0
  have hz0 : W0.heap.size = w.heap.size + 2 := by subst hW0; simp
  have hI : W0.heap[w.heap.size]? = some (.cells #[.slice A1 im.globals.length c1, .slice A2 im.routines.length c2] 43 (0, 0)) := by
    subst hW0
    exact blk_alloc (heap_alloc_new _ _) _
  have hF : W0.heap[w.heap.size + 1]? = some (.cells #[.int .i64 0, .int .i64 0] 27 (0, 0)) := by
    subst hW0
    have := heap_alloc_new (w.alloc (Obj.cells #[.slice A1 im.globals.length c1, .slice A2 im.routines.length c2] 43)) (Obj.cells #[.int .i64 0, .int .i64 0] 27)
    simpa using this
  obtain ⟨i0, i1⟩ := cells_blk hI
  have hlI := blk_lt hI
  have HW0 := Lib.hid hW0.symm
  have Hb0 := Lib.hid hb0
  have HI := Lib.hid hI
  have HF := Lib.hid hF
  have HG := Lib.hid h1
  have HT := Lib.hid h2
  have Hz0 := Lib.hid hz0
  clear hR hS ok h1 h2 hW0 hb0 hI hF hz0
  go_enter Tryz.func70, Tryz.ntmps70
  go_upto_region 1 with fail
  rw [HW0.out]
  go_wp2_with fail
  refine Globals_calls _ im.globals _ (HG.out.up Hb0.out Hb0.out.size) _ (fun w1 n1 hb1 => ?_)
  rw [Hok.out.glob]
  obtain ⟨W1, hW1⟩ : ∃ W1, W1 = w1.alloc (Obj.cells #[.int .i64 0, .int .i64 0] 27) := ⟨_, rfl⟩
  have hbW1 : Below w1.heap.size w1 W1 := by subst hW1; exact bl0
  have hE : W1.heap[w1.heap.size]? = some (.cells #[.int .i64 0, .int .i64 0] 27 (0, 0)) := by subst hW1; exact heap_alloc_new _ _
  have hbb : Below W0.heap.size W0 W1 := hb1.trans (hbW1.mono hb1.size)
  obtain ⟨f0, f1⟩ := cells_blk hE
  have hlE := blk_lt hE
  have hIW := (hbb.block _ (by have := Hz0.out; omega)).trans HI.out
  obtain ⟨i0, i1⟩ := cells_blk hIW
  have hlI := blk_lt hIW
  have HbW := Lib.hid (Hb0.out.trans (hbb.mono Hb0.out.size))
  have HIW := Lib.hid hIW
  have hlW : w.heap.size + 1 < W1.heap.size := by have := hbb.size; have := Hz0.out; omega
  have HFW := Lib.hid ((hbb.block _ (by have := Hz0.out; omega)).trans HF.out)
  have HW1 := Lib.hid hW1.symm
  clear hb1 hW1 hbW1 hE hbb hIW
  go_upto_region 2 with fail
  rw [HW1.out]
  go_wp2_with fail
  go_loopg [6, 7, 8, 9, 10, 11, 12, 38, 62, 78, 82, 88] im.routines.length (fun gh s6 s7 s8 s9 s10 s11 s12 s38 s62 s78 s82 s88 wr => ∃ (k : Nat) (cs : List (List Mac)) (css : List (List Value)), k ≤ im.routines.length ∧ gh = im.routines.length - k ∧ s38 = .int .i64 (k : Int) ∧ Hid (cs = (codesI im).take k) ∧ Built rpMac.slice W1.heap.size 55 (fun b => b < W1.heap.size) wr s6 cs css ∧ Below W1.heap.size W1 wr)
  case atStart => exact ⟨0, [], [], Nat.zero_le _, rfl, rfl, Lib.hid rfl, Built.nil _ _ _ _ _ (fun _ h => h), Below.refl _ _⟩
  case round =>
    obtain ⟨k, cs, css, hk, rfl, rfl, Hcs, hbu, hbel⟩ := hrel
    have Hbu := Lib.hid hbu
    have Hbel := Lib.hid hbel
    have hz := hbel.size
    have k0 : (0 : Int) ≤ (k : Int) := Int.natCast_nonneg _
    have hbw := HbW.out.trans (hbel.mono HbW.out.size)
    obtain ⟨i0, i1⟩ := cells_blk ((hbel.block _ hlI).trans HIW.out)
    have hlIr : w.heap.size < wr.heap.size := Nat.lt_of_lt_of_le hlI hz
    have Hbw := Lib.hid hbw
    obtain ⟨A6, n6, hs6⟩ := own_slice hbu.own
    subst hs6
    have Hlen : Hid (cs.length = k) := Lib.hid (by rw [Hcs.out, List.length_take, codesI_len]; omega)
    clear hbu hbel
    by_cases hlt : k < im.routines.length
    · obtain ⟨b, off, r, v1, rfl, hb, e, hc1, q0, q1⟩ := HT.out.routine_at hlt
      obtain ⟨A3, c3, rfl, _, _, hc1⟩ := hc1.cases_
      have p0 := (hbw.cell (p := ⟨b, off + k * 2, none⟩) hb).trans q0
      have p1 := (hbw.cell (p := ⟨b, off + k * 2 + 1, none⟩) hb).trans q1
      have k1 : (k : Int) < (im.routines.length : Int) := by omega
      have k2 : (k : Int) ≤ (c2 : Int) := by omega
      obtain ⟨hgood, hmain, hnoG, hnoR, cd, hread, hcall⟩ := Hok.out.each k r e
      have Hgood := Lib.hid hgood
      have Hmain := Lib.hid hmain
      have HnoG := Lib.hid hnoG
      have HnoR := Lib.hid (hasR_none hnoR)
      have Hread := Lib.hid hread
      have Hfar := Lib.hid (anyFar_none hcall)
      have Htk := Lib.hid (codesI_take e hread)
      have Hcode := Lib.hid hc1
      obtain ⟨W2, hW2⟩ : ∃ W2, W2 = wr.alloc (Obj.cells #[.string r.name, .slice A3 r.code.length c3] 78) := ⟨_, rfl⟩
      have hbW2 : Below wr.heap.size wr W2 := by subst hW2; exact bl0
      have hR0 : W2.heap[wr.heap.size]? = some (.cells #[.string r.name, .slice A3 r.code.length c3] 78 (0, 0)) := by subst hW2; exact heap_alloc_new _ _
      have HW2 := Lib.hid hW2.symm
      have HR0 := Lib.hid hR0
      have HbW2 := Lib.hid hbW2
      have Hbw2 := Lib.hid (hbw.trans (hbW2.mono hbw.size))
      have htk := HT.out.take_ (k := k) (by omega)
      have Htake := Lib.hid htk
      clear q0 q1 e hc1 hgood hmain hnoG hnoR hread hcall hW2 hbW2 hR0 hbw htk
      go_upto_region 12 with fail
      rw [HW2.out]
      obtain ⟨i0, i1⟩ := cells_blk ((HbW2.out.block _ hlIr).trans ((Hbel.out.block _ hlI).trans HIW.out))
      obtain ⟨r0, r1⟩ := cells_blk HR0.out
      have hlR := blk_lt HR0.out
      have hlI2 : w.heap.size < W2.heap.size := Nat.lt_of_lt_of_le hlIr HbW2.out.size
      clear p0 p1
      go_wp2_with fail
      refine containsGL_calls _ im.globals r.name wr.heap.size _ (HG.out.up Hbw2.out Hbw2.out.size) r0 _ (fun w3 hb3 => ?_)
      rw [HnoG.out]
      have Hb3 := Lib.hid hb3
      have hz3 := hb3.size
      have hlI3 : w.heap.size < w3.heap.size := Nat.lt_of_lt_of_le hlI2 hz3
      obtain ⟨i0, i1⟩ := cells_blk ((hb3.block _ hlI2).trans ((HbW2.out.block _ hlIr).trans ((Hbel.out.block _ hlI).trans HIW.out)))
      obtain ⟨r0, r1⟩ := cells_blk ((hb3.block _ hlR).trans HR0.out)
      have hbw3 := Hbw2.out.trans (hb3.mono Hbw2.out.size)
      have Hbw3 := Lib.hid hbw3
      clear hb3 hbw3
      go_wp2_with fail
      refine containsRL_calls _ (im.routines.take k) r.name wr.heap.size _ (by simpa using Htake.out.up Hbw3.out Hbw3.out.size) r0 _ (fun w4 hb4 => ?_)
      rw [HnoR.out]
      have Hb4 := Lib.hid (Hb3.out.trans (hb4.mono hz3))
      have hbw4 := Hbw3.out.trans (hb4.mono Hbw3.out.size)
      have hlR4 : wr.heap.size < w4.heap.size := Nat.lt_of_lt_of_le hlR Hb4.out.size
      have hlI4 : w.heap.size < w4.heap.size := Nat.lt_of_lt_of_le hlI2 Hb4.out.size
      obtain ⟨r0, r1⟩ := cells_blk ((Hb4.out.block _ hlR).trans HR0.out)
      have Hbw4 := Lib.hid hbw4
      clear hb4 hbw4 i0 i1
      go_wp2_with fail
      refine Read_own _ r.code _ (Hcode.out.up Hbw4.out Hbw4.out.size) (HSh.out.up Hbw4.out h0) _ (fun l hl w5 u hb5 ho => ?_) (fun hl => by rw [Hread.out] at hl; cases hl)
      obtain rfl : l = cd := by
        rw [Hread.out] at hl
        exact (Option.some.inj hl).symm
      obtain ⟨A5, c5, rfl⟩ := own_slice ho
      obtain ⟨W6, hW6⟩ : ∃ W6, W6 = w5.alloc (Obj.cells #[.int .i64 0, .int .i64 0] 27) := ⟨_, rfl⟩
      have hbW6 : Below w5.heap.size w5 W6 := by subst hW6; exact bl0
      have hE6 : W6.heap[w5.heap.size]? = some (.cells #[.int .i64 0, .int .i64 0] 27 (0, 0)) := by subst hW6; exact heap_alloc_new _ _
      obtain ⟨e0, e1⟩ := cells_blk hE6
      have hlE6 := blk_lt hE6
      have hb46 : Below w4.heap.size w4 W6 := hb5.trans (hbW6.mono hb5.size)
      have Hb6 := Lib.hid (Hb4.out.trans (hb46.mono Hb4.out.size))
      obtain ⟨r0, r1⟩ := cells_blk ((hb46.block _ hlR4).trans ((Hb4.out.block _ hlR).trans HR0.out))
      have hlR6 : wr.heap.size < W6.heap.size := Nat.lt_of_lt_of_le hlR4 hb46.size
      have hlI6 : w.heap.size < W6.heap.size := Nat.lt_of_lt_of_le hlI4 hb46.size
      obtain ⟨i0, i1⟩ := cells_blk ((hb46.block _ hlI4).trans ((Hb4.out.block _ hlI2).trans ((HbW2.out.block _ hlIr).trans ((Hbel.out.block _ hlI).trans HIW.out))))
      have Ho := Lib.hid (own_below ho hbW6)
      have HW6 := Lib.hid hW6.symm
      clear hb5 ho hl hW6 hbW6 hE6 hb46
      go_upto_region 14 with fail
      rw [HW6.out]
      have HBu6 := Lib.hid (Hbu.out.keep (Nat.le_trans HbW2.out.size Hb6.out.size |> fun h => h) fun j hj hx => (HbW2.out.trans (Hb6.out.mono HbW2.out.size)).block j hj)
      have HbelW6 := Lib.hid (Hbel.out.trans ((HbW2.out.trans (Hb6.out.mono HbW2.out.size)).mono hz))
      have hk0 : Hid (k = 0 → r.name = ⟨#[109, 97, 105, 110]⟩) := Lib.hid Hmain.out
      have Hown : Hid (∀ j, Value.ownBlock (.slice A6 cs.length n6) = some j → W1.heap.size ≤ j ∧ j < wr.heap.size) := Lib.hid fun j hj => Hbu.out.own.lt j hj
      have hwr4 : wr.heap.size < w4.heap.size := hlR4
      have Hap : Hid (Apart rpMac.slice (fun b => b < W1.heap.size) (W6.alloc (Obj.cells #[.slice A5 l.length c5] 55)) (.slice A6 cs.length n6) l [.slice A5 l.length c5]) := Lib.hid (Apart.of_only (base := w4.heap.size) ⟨_, rfl, SLMac_own (ownsRow_only (Ho.out.alloc _)) (by rw [only_size]; exact Nat.le_refl _)⟩ (fun k (h : k < W1.heap.size) => by omega) (fun g hg => by have := (Hown.out g hg).2; omega))
      have HBu7 := Lib.hid (HBu6.out.alloc (Obj.cells #[.slice A5 l.length c5] 55))
      have hlenk : cs.length ≤ 40 := by rw [Hlen.out]; omega
      have hwz : W1.heap.size ≤ W6.heap.size := HbelW6.out.size
      have hl40' : im.routines.length ≤ 40 := hl40
      by_cases h0k : k = 0
      · have hmn := hk0.out h0k
        have hk0b : ((k : Int) == 0) = true := by simp [h0k]
        have Hgm : Hid (goodName ⟨#[109, 97, 105, 110]⟩ = true) := Lib.hid (by rw [← hmn]; exact Hgood.out)
        clear h0k
        go_wp2_with (go_at_call 57; refine Name_calls _ _ _ ?_; first | rw [Hgood.out] | rw [Hgm.out])
        refine containsML_calls _ l _ im.routines.length _ w.heap.size _ (SLMac_own Ho.out (Nat.le_refl _)) i1 Hfar.out _ (fun w7 hb7 => ?_)
        have hz7 := hb7.size
        have HBu8 := Lib.hid ((HBu6.out.below hb7 (Nat.le_refl _)).alloc (Obj.cells #[.slice A5 l.length c5] 55))
        have Ho7 := Lib.hid (own_below Ho.out hb7)
        have Hap : Hid (Apart rpMac.slice (fun b => b < W1.heap.size) (w7.alloc (Obj.cells #[.slice A5 l.length c5] 55)) (.slice A6 cs.length n6) l [.slice A5 l.length c5]) := Lib.hid (Apart.of_only (base := w4.heap.size) ⟨_, rfl, SLMac_own (ownsRow_only (Ho7.out.alloc _)) (by rw [only_size]; exact Nat.le_refl _)⟩ (fun k (h : k < W1.heap.size) => by omega) (fun g hg => by have := (Hown.out g hg).2; omega))
        have Hbel7 := Lib.hid (HbelW6.out.trans (hb7.mono hwz))
        have hlR7 : wr.heap.size < w7.heap.size := Nat.lt_of_lt_of_le hlR6 hz7
        have hlI7 : w.heap.size < w7.heap.size := Nat.lt_of_lt_of_le hlI6 hz7
        have hwz7 : W1.heap.size ≤ w7.heap.size := Nat.le_trans hwz hz7
        have hwr7 : wr.heap.size ≤ w7.heap.size := Nat.le_of_lt hlR7
        clear hb7 i0 i1 r0 r1 e0 e1
        go_wp2_with (at_builtin; refine wpList_append_lies _ rfl _ _ 98 rfl W1.heap.size 55 iC _ 1 24 Tryz.underlying98 hiC zC0 zC1 zC2 rfl (by decide) (.slice A6 cs.length n6) cs.length css.flatten rfl HBu8.out.own ⟨w7.heap.size, 0, none⟩ 1 1 [.slice A5 l.length c5] rfl rfl ?_ ?_ (by decide) ?_ ?_ ?_ _ rfl ?_)
        any_goals (first | exact World.news_of_block (cs := #[.slice A5 l.length c5]) (t := 55) (fr := (0, 0)) (heap_alloc_new _ _) | (simp [Value.oneCell']; done) | (unfold maxLen; omega) | omega | (simp; done) | (simp; omega))
        intro gb cap w9 hown9 hgrow9 hat9 hlt9
        have HB9 := Lib.hid (HBu8.out.push hown9 rfl hgrow9 (by simpa using hat9) Hap.out)
        have Hbel9 := Lib.hid ((Hbel7.out.alloc hwz7 _).trans ((Grew.of_grown hgrow9).below (B := W1.heap.size) (fun j hj e => by have := (Hown.out j e).1; omega) (by simp; omega)))
        clear hown9 hgrow9 hat9 hlt9
        go_wp2
        go_roundg (im.routines.length - (k + 1))
        case measure => omega
        case rel => exact ⟨k + 1, _, _, hlt, rfl, by go_num, Lib.hid (by rw [Htk.out, Hcs.out]), HB9.out, Hbel9.out⟩
      · have hk0b : ((k : Int) == 0) = false := by simp; omega
        go_wp2_with (go_at_call 57; refine Name_calls _ _ _ ?_; rw [Hgood.out])
        refine containsML_calls _ l _ im.routines.length _ w.heap.size _ (SLMac_own Ho.out (Nat.le_refl _)) i1 Hfar.out _ (fun w7 hb7 => ?_)
        have hz7 := hb7.size
        have HBu8 := Lib.hid ((HBu6.out.below hb7 (Nat.le_refl _)).alloc (Obj.cells #[.slice A5 l.length c5] 55))
        have Ho7 := Lib.hid (own_below Ho.out hb7)
        have Hap : Hid (Apart rpMac.slice (fun b => b < W1.heap.size) (w7.alloc (Obj.cells #[.slice A5 l.length c5] 55)) (.slice A6 cs.length n6) l [.slice A5 l.length c5]) := Lib.hid (Apart.of_only (base := w4.heap.size) ⟨_, rfl, SLMac_own (ownsRow_only (Ho7.out.alloc _)) (by rw [only_size]; exact Nat.le_refl _)⟩ (fun k (h : k < W1.heap.size) => by omega) (fun g hg => by have := (Hown.out g hg).2; omega))
        have Hbel7 := Lib.hid (HbelW6.out.trans (hb7.mono hwz))
        have hlR7 : wr.heap.size < w7.heap.size := Nat.lt_of_lt_of_le hlR6 hz7
        have hlI7 : w.heap.size < w7.heap.size := Nat.lt_of_lt_of_le hlI6 hz7
        have hwz7 : W1.heap.size ≤ w7.heap.size := Nat.le_trans hwz hz7
        have hwr7 : wr.heap.size ≤ w7.heap.size := Nat.le_of_lt hlR7
        clear hb7 i0 i1 r0 r1 e0 e1
        go_wp2_with (at_builtin; refine wpList_append_lies _ rfl _ _ 98 rfl W1.heap.size 55 iC _ 1 24 Tryz.underlying98 hiC zC0 zC1 zC2 rfl (by decide) (.slice A6 cs.length n6) cs.length css.flatten rfl HBu8.out.own ⟨w7.heap.size, 0, none⟩ 1 1 [.slice A5 l.length c5] rfl rfl ?_ ?_ (by decide) ?_ ?_ ?_ _ rfl ?_)
        any_goals (first | exact World.news_of_block (cs := #[.slice A5 l.length c5]) (t := 55) (fr := (0, 0)) (heap_alloc_new _ _) | (simp [Value.oneCell']; done) | (unfold maxLen; omega) | omega | (simp; done) | (simp; omega))
        intro gb cap w9 hown9 hgrow9 hat9 hlt9
        have HB9 := Lib.hid (HBu8.out.push hown9 rfl hgrow9 (by simpa using hat9) Hap.out)
        have Hbel9 := Lib.hid ((Hbel7.out.alloc hwz7 _).trans ((Grew.of_grown hgrow9).below (B := W1.heap.size) (fun j hj e => by have := (Hown.out j e).1; omega) (by simp; omega)))
        clear hown9 hgrow9 hat9 hlt9
        go_wp2
        go_roundg (im.routines.length - (k + 1))
        case measure => omega
        case rel => exact ⟨k + 1, _, _, hlt, rfl, by go_num, Lib.hid (by rw [Htk.out, Hcs.out]), HB9.out, Hbel9.out⟩
    · obtain rfl : k = im.routines.length := by omega
      have k1 : ¬ (im.routines.length : Int) < (im.routines.length : Int) := by omega
      have hcs : cs = codesI im := by rw [Hcs.out, ← codesI_len im, List.take_length]
      subst hcs
      have hFr := (Hbel.out.block _ (blk_lt HFW.out)).trans HFW.out
      have Hbu' := Hbu
      have HFr := Lib.hid hFr
      obtain ⟨f0, f1, z0, z1⟩ := cells_of_block hFr
      have hlF := blk_lt hFr
      have Hres := Lib.hid (fun a => HR.out _ (.slice A6 (codesI im).length n6) ((Hbw.out.setCell (p := ⟨w.heap.size + 1, 0, none⟩) (by simp) (.int .i64 0)).setCell (p := ⟨w.heap.size + 1, 1, none⟩) (by simp) (.int .i64 0)) a)
      have Hsl : Hid (rpMac.slice.SLF ((wr.setCell ⟨w.heap.size + 1, 0, none⟩ (.int .i64 0)).setCell ⟨w.heap.size + 1, 1, none⟩ (.int .i64 0)) w.heap.size ((wr.setCell ⟨w.heap.size + 1, 0, none⟩ (.int .i64 0)).setCell ⟨w.heap.size + 1, 1, none⟩ (.int .i64 0)).heap.size (codesI im) (.slice A6 (codesI im).length n6)) := Lib.hid ((((Hbu'.out.setCell ⟨w.heap.size + 1, 0, none⟩ hlW _).setCell ⟨w.heap.size + 1, 1, none⟩ hlW _).SLF (b := W1.heap.size) (fun _ h => h) (Nat.le_refl _) (Nat.le_refl _)).more (by omega) (Nat.le_refl _))
      clear hFr
      go_wp2
      exact bodyPost_ret (v := .tuple #[.slice A6 (codesI im).length n6, .agg #[.int .i64 0, .int .i64 0]]) (res_slM (by rfl) (by rfl) (by rfl) (blkp HFr.out)) rfl (Hres.out Hsl.out)
end Go.Proofs.YtcakodemngchpaaGreatDoor

/- Images that may be, as the machine takes them: their codes, their memory. -/
namespace Go.Proofs.YtcakodemngchpaaGreatDoor
open Go.RowKit
set_option linter.unusedSimpArgs false
set_option linter.unusedVariables false

theorem macsFrom_last {l : List Mac} : ∀ (f i : Nat), macsFrom l f i = (0, 0) → (l.getD (l.length - 1) ⟨0, 0, 0, 0, 0⟩).op = 37 ∨ (l.getD (l.length - 1) ⟨0, 0, 0, 0, 0⟩).op = 45
  | 0, _, h => by
    unfold macsFrom at h
    split at h
    · assumption
    · simp at h
  | f + 1, i, h => by
    unfold macsFrom at h
    split at h
    · rename_i h1
      simp at h
      exact absurd h.1 h1
    · exact macsFrom_last f (i + 1) h
theorem codeOk_of_read {bs : List UInt8} {c : List Mac} {n : Nat} (h : readL bs = some c) (hf : ∀ m ∈ c, m.op = 44 → m.n < (n : Int)) : CodeOk n c := by
  obtain ⟨_, hm⟩ := readL_some h
  have h5 := macsFault_few hm
  unfold macsFault at hm
  rw [if_neg (by omega)] at hm
  by_cases hn : c = []
  · rw [if_pos hn] at hm; simp at hm
  rw [if_neg hn] at hm
  have hl : 0 < c.length := List.length_pos_iff.2 hn
  refine ⟨hl, h5, fun m hm' => ?_, hf, macsFrom_last _ _ hm⟩
  obtain ⟨k, hk, e⟩ := List.mem_iff_getElem.1 hm'
  have := macsFrom_all c.length 0 (by omega) hm k (Nat.zero_le _) hk
  rw [List.getD_eq_getElem?_getD, List.getElem?_eq_getElem hk] at this
  rw [← e]
  exact this
theorem img_codes {im : Image} (h : ImgOk im) : CodesOk (codesI im) where
  some_ := by rw [codesI_len]; exact h.some_
  few := by rw [codesI_len]; exact h.few
  each := fun k c hc => by
    unfold codesI at hc
    rw [List.getElem?_map, Option.map_eq_some_iff] at hc
    obtain ⟨r, hr, e⟩ := hc
    obtain ⟨_, _, _, _, c', h1, h2⟩ := h.each k r hr
    rw [h1] at e
    have e' : c' = c := e
    subst e'
    rw [codesI_len]
    exact codeOk_of_read h1 h2
/-- The memory at first. -/
def memG (g : Global) : List Int := g.init ++ List.replicate (g.size - (g.init.length : Int)).toNat 0
def memI (gs : List Global) : List Int := gs.flatMap memG
theorem memI_step {gs : List Global} {k : Nat} {g : Global} (h : gs[k]? = some g) : memI (gs.take (k + 1)) = memI (gs.take k) ++ g.init ++ List.replicate (g.size - (g.init.length : Int)).toNat 0 := by
  obtain ⟨hk, e⟩ := List.getElem?_eq_some_iff.1 h
  unfold memI
  rw [List.take_succ_eq_append_getElem hk, List.flatMap_append, e, List.flatMap_cons, List.flatMap_nil, List.append_nil]
  unfold memG
  rw [List.append_assoc]
theorem globFrom_sum (l : List Global) : ∀ (f i : Nat) (sum : Int), globFrom l f i sum = (0, 0) → f + i = l.length → sum ≤ 200 → ((memI (l.take i)).length : Int) = sum → (memI l).length ≤ 200
  | 0, i, sum, _, hi, hs, h => by
    rw [show i = l.length from by omega, List.take_length] at h
    omega
  | f + 1, i, sum, h, hi, hs, hm => by
    have hlt : i < l.length := by omega
    have hg : l[i]? = some l[i] := List.getElem?_eq_getElem hlt
    unfold globFrom at h
    rw [hg] at h
    simp only [] at h
    split at h
    · simp at h
    split at h
    · simp at h
    split at h
    · simp at h
    split at h
    · simp at h
    split at h
    · simp at h
    refine globFrom_sum l f (i + 1) _ h (by omega) (by omega) ?_
    rw [memI_step hg]
    simp only [List.length_append, List.length_replicate]
    omega
theorem memI_few {gs : List Global} (h : globFault gs = (0, 0)) : (memI gs).length ≤ 200 := by
  unfold globFault at h
  split at h
  · simp at h
  · exact globFrom_sum gs gs.length 0 0 h (by omega) (by omega) (by simp [memI])
theorem doM_steps (m : Mac) (c : Frm) (r : List Frm) (s : MS) : (doM m c r s).steps = s.steps := by
  have h1 : ∀ op d a b, (reckM s op d a b).steps = s.steps := fun op d a b => by
    unfold reckM
    split <;> rfl
  have h2 : (movesM m c r s).steps = s.steps := by
    unfold movesM
    by_cases h1 : m.op = 1
    · rw [if_pos h1]; rfl
    rw [if_neg h1]
    by_cases h1 : m.op = 2
    · rw [if_pos h1]; rfl
    rw [if_neg h1]
    by_cases h1 : m.op = 3
    · rw [if_pos h1]; rfl
    rw [if_neg h1]
    by_cases h1 : m.op = 4
    · rw [if_pos h1]; rfl
    rw [if_neg h1]
    by_cases h1 : m.op = 33
    · rw [if_pos h1]; split <;> rfl
    rw [if_neg h1]
    by_cases h1 : m.op = 34
    · rw [if_pos h1]; split <;> rfl
    rw [if_neg h1]
    by_cases h1 : m.op = 35
    · rw [if_pos h1]; rfl
    rw [if_neg h1]
    by_cases h1 : m.op = 36
    · rw [if_pos h1]
    rw [if_neg h1]
  have h3 : (speaksM m c r s).steps = s.steps := by
    unfold speaksM
    by_cases h44 : m.op = 44
    · rw [if_pos h44]; split <;> rfl
    rw [if_neg h44]
    by_cases h45 : m.op = 45
    · rw [if_pos h45]; split <;> rfl
    rw [if_neg h45]
    by_cases h46 : m.op = 46
    · rw [if_pos h46]; split <;> rfl
    rw [if_neg h46]
    by_cases h47 : m.op = 47
    · rw [if_pos h47]; split <;> rfl
    rw [if_neg h47]
  unfold doM
  by_cases c1 : 5 ≤ m.op ∧ m.op ≤ 18
  · rw [if_pos c1, h1]
  rw [if_neg c1]
  by_cases c2 : 19 ≤ m.op ∧ m.op ≤ 32
  · rw [if_pos c2, h1]
  rw [if_neg c2]
  by_cases c3 : 37 ≤ m.op ∧ m.op ≤ 43
  · rw [if_pos c3]; split <;> rfl
  rw [if_neg c3]
  by_cases c4 : 44 ≤ m.op
  · rw [if_pos c4, h3]
  · rw [if_neg c4, h2]
theorem stepM_steps {cs : List (List Mac)} {s : MS} (h : s.calls ≠ []) : (stepM cs s).steps = s.steps + 1 := by
  unfold stepM
  cases hc : s.calls with
  | nil => exact absurd hc h
  | cons c r => rw [doM_steps]
theorem metM_stop {cs : List (List Mac)} : ∀ (f g : Nat) (s : MS), (runM cs f s).over = true → f ≤ g → metM cs g s = metM cs f s
  | 0, 0, s, h, _ => rfl
  | 0, g + 1, s, h, _ => by
    rw [runM] at h
    show (if s.over then [] else _) = []
    exact if_pos h
  | f + 1, 0, s, h, hg => by omega
  | f + 1, g + 1, s, h, hg => by
    cases ho : s.over
    · rw [runM_step ho] at h
      rw [metM, metM, if_neg (by rw [ho]; simp), if_neg (by rw [ho]; simp)]
      cases s.calls with
      | nil => rfl
      | cons c r =>
        simp only []
        rw [metM_stop f g _ h (by omega)]
    · rw [metM, metM, if_pos ho, if_pos ho]
theorem metM_len (cs : List (List Mac)) : ∀ (f : Nat) (s : MS), (metM cs f s).length ≤ f
  | 0, _ => Nat.le_refl _
  | f + 1, s => by
    rw [metM]
    split
    · simp
    split
    · simp
    · simp only [List.length_cons]
      have := metM_len cs f (stepM cs s)
      omega
end Go.Proofs.YtcakodemngchpaaGreatDoor

/- Appends onto a row of ints of the call's own: of a slice's words, and of so many noughts. -/
namespace Go.Proofs.YtcakodemngchpaaGreatDoor
open Go.RowKit
set_option linter.unusedSimpArgs false
set_option linter.unusedVariables false

theorem zeros_int (k : Nat) : (Builtin.zeroCells (Value.int .i64 0).cells k).toList = (List.replicate k (0 : Int)).flatMap intCells := by
  simp only [Builtin.zeroCells, Value.cells, Array.toList_map, Array.toList_range]
  rw [List.flatMap_replicate]
  apply List.ext_getElem?
  intro i
  simp only [List.getElem?_map, intCells]
  rw [List.flatten_replicate_singleton]
  by_cases h : i < k
  · rw [List.getElem?_range (by simpa using h), List.getElem?_replicate, if_pos h]
    simp [Nat.mod_one]
  · rw [List.getElem?_eq_none (by simpa using h), List.getElem?_eq_none (by simpa using h)]
    rfl
theorem run_append_zeros {w : World} {base : Nat} {v : Value} {xs : List Int} (hown : w.ownsRow base 3 1 v xs.length (xs.flatMap intCells)) (k : Nat) (hk : xs.length + k ≤ 100000) (hbase : base ≤ w.heap.size) (ty : TypeId) :
    ∃ v' w', (Builtin.append_ #[31, 3] ty #[v, .int .i64 (k : Int)]).run Tryz.prog w = .ok v' w' ∧ w'.ownsRow base 3 1 v' (xs.length + k) ((xs ++ List.replicate k 0).flatMap intCells) ∧ w.grownBy w' v.ownBlock := by
  obtain ⟨iI, hiI, zI0, zI1, zI2⟩ := info_parts info_int3
  have hT := Tryz.underlying31
  have hN := Tryz.underlying3
  have hw : IntKind.i64.wrap (k : Int) = k := by rw [IntKind.wrap_i64]; omega
  have hflat : (xs ++ List.replicate k 0).flatMap intCells = xs.flatMap intCells ++ (List.replicate k (0 : Int)).flatMap intCells := List.flatMap_append
  have hxl : (xs.flatMap intCells).length = xs.length := by rw [flat_length intCells 1 (fun _ => rfl), Nat.mul_one]
  have hzl : ((List.replicate k (0 : Int)).flatMap intCells).length = k := by rw [flat_length intCells 1 (fun _ => rfl), Nat.mul_one, List.length_replicate]
  rcases Nat.eq_zero_or_pos k with h0 | hp
  · subst h0
    have hs : (xs ++ List.replicate 0 (0 : Int)).flatMap intCells = xs.flatMap intCells := by simp
    refine ⟨v, w, ?_, by rw [hs]; exact hown, ⟨rfl, rfl, rfl, Nat.le_refl _, fun _ _ _ => rfl⟩⟩
    obtain ⟨A, c, rfl⟩ := own_slice hown
    have hc : xs.length ≤ c := by
      rcases hown.2 with ⟨e, h⟩ | ⟨g, cap, cur, e, _, _, h, _⟩
      · omega
      · injection e with _ _ e; omega
    have hw0 : IntKind.i64.wrap 0 = 0 := by decide
    cases A with
    | none => simp [Builtin.append_, run_underlying hT, run_underlying hN, sizeOf, typeInfo, hiI, zI1, asInt, asIntOf, hw0, hc]
    | some a => simp [Builtin.append_, run_underlying hT, run_underlying hN, sizeOf, typeInfo, hiI, zI1, asInt, asIntOf, hw0, hc, storeCells]
  · rcases hown.2 with ⟨rfl, hn⟩ | ⟨g, cap, cur, rfl, hbg, hg, hnc, hcm, hcs, htk⟩
    · have hx : xs = [] := List.eq_nil_of_length_eq_zero hn
      subst hx
      have h := Lib.run_append_nil_zeros (P := Tryz.prog) w 31 3 ty 3 iI _ .i64 .i64 hT hN hiI zI0 k hp (by rw [zI1]; decide) (by omega) (by rw [zI2]; omega)
      have hge := grownCap_ge w k 0 3
      have hcm := grownCap_le_maxLen w k 0 3 (by unfold maxLen; omega)
      generalize grownCap w k 0 3 = cap at *
      refine ⟨_, _, h, ?_, ⟨rfl, rfl, rfl, by simp, fun j hj _ => Below.heap_alloc w.drew _ j hj⟩⟩
      simp only [List.nil_append, List.length_nil, Nat.zero_add]
      refine ⟨by rw [hzl, Nat.mul_one], .inr ⟨w.heap.size, cap, _, rfl, hbase, heap_alloc_new w.drew _, hge, hcm, ?_, ?_⟩⟩
      · simp only [Array.size_append, size_zeroCells]
        simp [Value.cells]
        omega
      · rw [Array.toList_append, zeros_int, List.take_append_of_le_length (by rw [hzl]; omega), List.take_of_length_le (by rw [hzl]; omega)]
    · by_cases hroom : xs.length + k ≤ cap
      · have hsp : ∀ j, j < k → (w.cell? ⟨g, xs.length + j, none⟩).isSome = true ∧ w.frozen? ⟨g, xs.length + j, none⟩ = false := fun j hj => own_there hown _ (by omega)
        have hv1 : ∀ u ∈ (List.replicate k (0 : Int)).flatMap intCells, u.oneCell' = true := one_int _
        have hst := run_storeCells_cells (P := Tryz.prog) g xs.length ((List.replicate k (0 : Int)).flatMap intCells) 0 w (fun j hj => (hsp j (by omega)).1) (fun j hj => (hsp j (by omega)).2) hv1
        simp only [Nat.add_zero] at hst
        have hns : ¬ (k * 1 = 0) := by omega
        have hz0 : ¬ ((k : Int) < 0) := by omega
        have h48 : ¬ (281474976710656 < (k : Int) * 8) := by omega
        have hk0 : k ≠ 0 := by omega
        refine ⟨.slice (some ⟨g, 0, none⟩) (xs.length + k) cap, w.setCells g xs.length ((List.replicate k (0 : Int)).flatMap intCells), ?_, ?_, grown_setCells _ _ _ (World.grownBy.refl w _)⟩
        · simp [Builtin.append_, run_underlying hT, run_underlying hN, sizeOf, typeInfo, zeroValue, hiI, zI0, zI1, zI2, asInt, asIntOf, hw, hroom, hz0, h48, hk0, zeros_int, Addr.add_lit, hst]
        · have hcur : w.heap[g]? = some (.cells cur 3 (0, 0)) := hg
          obtain ⟨cur', hc', hl'⟩ := heap_setCells ((List.replicate k (0 : Int)).flatMap intCells) xs.length w cur hg (by rw [hzl]; omega)
          have hcs' : cur'.size = cap * 1 := by
            rw [← Array.length_toList, hl']
            simp only [List.length_append, List.length_take, List.length_drop, Array.length_toList, hzl]
            omega
          refine ⟨by rw [hflat, List.length_append, hxl, hzl, Nat.mul_one], .inr ⟨g, cap, cur', rfl, hbg, hc', hroom, hcm, hcs', ?_⟩⟩
          rw [hl', hflat]
          have e1 : cur.toList.take xs.length = xs.flatMap intCells := by rw [← htk, Nat.mul_one]
          rw [e1]
          apply List.take_left'
          rw [List.length_append, hxl, hzl, Nat.mul_one]
      · have hold : (Builtin.firstCells iI.size xs.length (.slice (some ⟨g, 0, none⟩) xs.length cap)).run Tryz.prog w.drew = .ok (xs.flatMap intCells).toArray w.drew := by
          rw [zI1]
          exact run_firstCells_some (P := Tryz.prog) (w := w.drew) 1 xs.length ⟨g, 0, none⟩ xs.length cap (xs.flatMap intCells) (by rw [hxl, Nat.mul_one]) (hown.cells (g := g) rfl)
        have h := Lib.run_append_grow_zeros (P := Tryz.prog) w 31 3 ty 3 iI _ .i64 .i64 hT hN hiI zI0 (some ⟨g, 0, none⟩) xs.length cap (xs.flatMap intCells) hold k hp (by rw [zI1]; decide) (by omega) (by omega) (by rw [zI2]; omega) (by rw [zI2]; exact growslice_fits (by omega) (by omega))
        have hge := grownCap_ge w (xs.length + k) cap 3
        have hcm2 := grownCap_le_maxLen w (xs.length + k) cap 3 (by unfold maxLen; omega)
        generalize grownCap w (xs.length + k) cap 3 = G at *
        refine ⟨_, _, h, ?_, ⟨rfl, rfl, rfl, by simp, fun j hj _ => Below.heap_alloc w.drew _ j hj⟩⟩
        refine ⟨by rw [hflat, List.length_append, hxl, hzl, Nat.mul_one], .inr ⟨w.heap.size, G, _, rfl, hbase, heap_alloc_new w.drew _, hge, hcm2, ?_, ?_⟩⟩
        · simp only [Array.size_append, size_zeroCells]
          simp [Value.cells, hxl]
          omega
        · rw [Array.toList_append, Array.toList_append, zeros_int, hflat]
          apply List.take_left'
          simp only [List.length_append, hzl]
          rw [hxl]
          omega
theorem run_append_ints {w : World} {base : Nat} {v : Value} {xs : List Int} (hown : w.ownsRow base 3 1 v xs.length (xs.flatMap intCells)) {ys : List Int} {A : Option Addr} {c B : Nat} (hy : rpInt.SL w B ys (.slice A ys.length c)) (hk : xs.length + ys.length ≤ 100000) (hbase : base ≤ w.heap.size) (ty : TypeId) :
    ∃ v' w', (Builtin.append_ #[31, 31] ty #[v, .slice A ys.length c]).run Tryz.prog w = .ok v' w' ∧ w'.ownsRow base 3 1 v' (xs.length + ys.length) ((xs ++ ys).flatMap intCells) ∧ w.grownBy w' v.ownBlock ∧ ∀ k, v'.ownBlock = some k → v.ownBlock = some k ∨ k = w.heap.size := by
  obtain ⟨iI, hiI, zI0, zI1, zI2⟩ := info_parts info_int3
  have hT := Tryz.underlying31
  have hflat : (xs ++ ys).flatMap intCells = xs.flatMap intCells ++ ys.flatMap intCells := List.flatMap_append
  cases A with
  | none =>
    have hy0 : ys.length = 0 := by
      rcases Nat.eq_zero_or_pos ys.length with h | h
      · exact h
      · obtain ⟨_, _, hA, _⟩ := hy.int_at h
        cases hA
    have hy1 : ys = [] := List.eq_nil_of_length_eq_zero hy0
    subst hy1
    obtain ⟨A, c', rfl⟩ := own_slice hown
    have hc : xs.length ≤ c' := by
      rcases hown.2 with ⟨e, h⟩ | ⟨g, cap, cur, e, _, _, h, _⟩
      · omega
      · injection e with _ _ e; omega
    refine ⟨_, w, ?_, by simpa using hown, ⟨rfl, rfl, rfl, Nat.le_refl _, fun _ _ _ => rfl⟩, fun _ h => .inl h⟩
    cases A with
    | none => simp [Builtin.append_, run_underlying hT, sizeOf, typeInfo, hiI, zI1, Builtin.lenOf, hc, Builtin.firstCells]
    | some a => simp [Builtin.append_, run_underlying hT, sizeOf, typeInfo, hiI, zI1, Builtin.lenOf, hc, Builtin.firstCells, storeCells]
  | some a =>
    obtain ⟨v', w', h1, h2, h3, _, h5⟩ := run_append_own_at (P := Tryz.prog) w base 31 ty 3 iI _ 1 8 hT hiI zI0 zI1 zI2 rfl (by decide) v xs.length (xs.flatMap intCells) hown a ys.length c (ys.flatMap intCells) (by rw [flat_length intCells 1 (fun _ => rfl)]) (hy.news (f := intCells) (fun _ _ _ _ h => h) (fun _ => rfl) (by decide)) (one_int ys) (by unfold maxLen; omega) (by omega) hbase
    exact ⟨v', w', h1, by rw [hflat]; exact h2, h3, fun k hk => by
      rcases h5 with h5 | h5
      · exact .inl (h5 ▸ hk)
      · rw [h5] at hk; exact .inr (Option.some.inj hk).symm⟩
/-- An append whose run is known, as a step of a region that draws. -/
theorem step_append_known {P : Program} {w w' : World} {ops : Array Oper} {o : Oper} {a : Act} {K : Act → World → Prop} {Q : Exit → Act → World → Prop} {E : Prop} {vs vx v' : Value} (hgd : o.guard = none) (s x : Operand) (t tn : TypeId)
    (ho : o.op = .call { callee := .builtin .append, args := #[s, x], argTypes := #[t, tn] }) (hs : a.eval s = vs) (hx : a.eval x = vx)
    (hr : (Builtin.append_ #[t, tn] o.type #[vs, vx]).run P w = .ok v' w') (h : K (a.put o.dst v') w') :
    if Region.wanted o (yielded ops a.tmps) = true then Oper.wp P o a w K Q else E := by
  have hw : Region.wanted o (yielded ops a.tmps) = true := by simp [Region.wanted, hgd]
  rw [if_pos hw]
  unfold Oper.wp execOp
  simp only [ho, resolve, invoke, builtin, Sem.run_bind, Sem.run_pure, Result.andThen_ok, List.map_toArray, List.map_cons, List.map_nil, hs, hx, hr]
  exact h
end Go.Proofs.YtcakodemngchpaaGreatDoor
