/- Names in lists, objects that have a name: their contracts. LinkFault, as the document says it. LinkMet, as the document says it: two rows of names that grow side by side. -/
import Derived.Test.YtcakodemngchpaaGreatDoorBase
import Derived.Test.YtcakodemngchpaaGreatDoorRows
import Derived.IntWalk
import Derived.Deep.LoopGhost
import Derived.Deep.CutBlock
import Derived.Deep.DeepCutAuto
import Derived.Outline
import Derived.Test.YtcakodemngchpaaGreatDoorLinkW
import Derived.Test.YtcakodemngchpaaGreatDoorSecA
import Derived.Test.YtcakodemngchpaaGreatDoorPlainA
import Derived.Deep.RegionHeld3
import Derived.Test.YtcakodemngchpaaGreatDoorSameA
/- Names in lists, objects that have a name: their contracts. -/
namespace Go.Proofs.YtcakodemngchpaaGreatDoor
open Go.RowKit
set_option linter.unusedSimpArgs false
set_option linter.unusedVariables false

/-- The place of a name in a list; -1: none. -/
def idxB (l : List ByteArray) (nm : ByteArray) : Int := match l.findIdx? fun x => decide (x = nm) with
  | some k => (k : Int)
  | none => -1
theorem inB_take {l : List ByteArray} {nm : ByteArray} {k : Nat} (h : inB (l.take k) nm = false) {j : Nat} {x : ByteArray} (hj : j < k) (hx : l[j]? = some x) : x ≠ nm := by
  intro e
  obtain ⟨hl, e2⟩ := List.getElem?_eq_some_iff.1 hx
  have : inB (l.take k) nm = true := by
    rw [inB_iff]
    refine List.mem_iff_getElem.2 ⟨j, by rw [List.length_take]; omega, ?_⟩
    rw [List.getElem_take, e2, e]
  rw [h] at this
  cases this
theorem idx_some {l : List ByteArray} {nm : ByteArray} {k : Nat} (h : l[k]? = some nm) (hn : inB (l.take k) nm = false) : idxB l nm = (k : Int) := by
  obtain ⟨hk, e⟩ := List.getElem?_eq_some_iff.1 h
  unfold idxB
  have : (l.findIdx? fun x => decide (x = nm)) = some k := by
    rw [List.findIdx?_eq_some_iff_getElem]
    refine ⟨hk, by rw [e]; simp, fun j hj => ?_⟩
    have := inB_take hn hj (List.getElem?_eq_getElem (by omega))
    simp [this]
  rw [this]
theorem idx_none {l : List ByteArray} {nm : ByteArray} (hn : inB l nm = false) : idxB l nm = -1 := by
  unfold idxB
  have : (l.findIdx? fun x => decide (x = nm)) = none := by
    rw [List.findIdx?_eq_none_iff]
    intro x hx
    unfold inB at hn
    rw [List.any_eq_false] at hn
    simpa using hn x hx
  rw [this]
theorem idx_cases (l : List ByteArray) (nm : ByteArray) : (idxB l nm = -1 ∧ inB l nm = false) ∨ ∃ k : Nat, idxB l nm = (k : Int) ∧ k < l.length ∧ inB l nm = true := by
  unfold idxB
  cases h : l.findIdx? fun x => decide (x = nm) with
  | none =>
    rw [List.findIdx?_eq_none_iff] at h
    exact .inl ⟨rfl, by unfold inB; rw [List.any_eq_false]; simpa using h⟩
  | some k =>
    rw [List.findIdx?_eq_some_iff_getElem] at h
    obtain ⟨hk, hh, _⟩ := h
    refine .inr ⟨k, rfl, hk, ?_⟩
    rw [inB_iff]
    have : l[k] = nm := by simpa using hh
    exact this ▸ List.getElem_mem hk
theorem inB_step {l : List ByteArray} {k : Nat} {x nm : ByteArray} (h : l[k]? = some x) : inB (l.take (k + 1)) nm = (inB (l.take k) nm || decide (x = nm)) := any_step (fun x : ByteArray => decide (x = nm)) h

set_option maxHeartbeats 1000000 in
theorem IndexS_calls (l : List ByteArray) (v : Value) (nm : ByteArray) (w : World) (h : rpStr.SL w w.heap.size l v) (R : Ending → World → Prop)
    (hR : R (.returned (.int .i64 (idxB l nm))) w) : Calls Tryz.prog 50 #[v, .string nm] w R := by
  obtain ⟨A, c, rfl, hm, hcap, h⟩ := h.cases_
  have HR := Lib.hid hR
  have H := Lib.hid h
  clear hR h
  go_enter Tryz.func50, Tryz.ntmps50
  go_wp2
  go_loopg [5, 8] l.length (fun g s5 i wr => ∃ k : Nat, k ≤ l.length ∧ g = l.length - k ∧ i = .int .i64 k ∧ inB (l.take k) nm = false ∧ wr = w)
  case atStart => exact ⟨0, Nat.zero_le _, rfl, rfl, rfl, rfl⟩
  case round =>
    obtain ⟨k, hk, rfl, rfl, ht, rfl⟩ := hrel
    rename World => w
    have Ht := Lib.hid ht
    have i1 : (0 : Int) ≤ (k : Int) := Int.natCast_nonneg _
    clear ht
    by_cases hlt : k < l.length
    · obtain ⟨b, off, s, rfl, hb, e, q0⟩ := H.out.str_at hlt
      have i2 : (k : Int) < (l.length : Int) := by omega
      have hne := name_eq nm s
      have Hst : Hid (inB (l.take (k + 1)) nm = decide (s = nm)) := Lib.hid (by rw [inB_step e, Ht.out]; simp)
      by_cases hx : s = nm
      · subst hx
        have hfin := HR.out
        rw [idx_some e Ht.out] at hfin
        have Hfin := Lib.hid hfin
        clear hfin HR
        rw [decide_eq_true rfl] at hne
        go_wp2
        exact Hfin.out
      · rw [decide_eq_false (fun e => hx e.symm)] at hne
        rw [decide_eq_false hx] at Hst
        have Hx := Lib.hid hx
        clear hx e
        go_wp2
        go_roundg (l.length - (k + 1))
        case measure => omega
        case rel => exact ⟨k + 1, hlt, rfl, by go_num, Hst.out, rfl⟩
    · obtain rfl : k = l.length := by omega
      rw [List.take_length] at Ht
      have hfin := HR.out
      rw [idx_none Ht.out] at hfin
      have Hfin := Lib.hid hfin
      clear hfin HR
      go_wp2
      exact Hfin.out
theorem ContainsStr_calls (l : List ByteArray) (v : Value) (nm : ByteArray) (w : World) (h : rpStr.SL w w.heap.size l v) (R : Ending → World → Prop)
    (hR : R (.returned (.bool (inB l nm))) w) : Calls Tryz.prog 80 #[v, .string nm] w R := by
  have HR := Lib.hid hR
  clear hR
  go_enter Tryz.func80, Tryz.ntmps80
  go_wp2_with fail
  refine IndexS_calls l _ nm _ h _ ?_
  rcases idx_cases l nm with ⟨h1, h2⟩ | ⟨k, h1, _, h2⟩
  · rw [h1]
    rw [h2] at HR
    clear h1 h2 h
    go_wp2
    exact HR.out
  · rw [h1]
    rw [h2] at HR
    have i1 : (0 : Int) ≤ (k : Int) := Int.natCast_nonneg _
    clear h1 h2 h
    go_wp2
    exact HR.out
end Go.Proofs.YtcakodemngchpaaGreatDoor

/- LinkFault, as the document says it. -/
namespace Go.Proofs.YtcakodemngchpaaGreatDoor
open Go.RowKit
set_option linter.unusedSimpArgs false
set_option linter.unusedVariables false

end Go.Proofs.YtcakodemngchpaaGreatDoor

/- LinkMet, as the document says it: two rows of names that grow side by side. -/
namespace Go.Proofs.YtcakodemngchpaaGreatDoor
open Go.RowKit
set_option linter.unusedSimpArgs false
set_option linter.unusedVariables false

theorem allS_len {l : List Object} (h : ∀ o ∈ l, o.sections.length ≤ 40) : (allS l).length ≤ 40 * l.length := by
  induction l with
  | nil => exact Nat.zero_le _
  | cons o l ih =>
    have := h o (List.mem_cons_self ..)
    have := ih fun x hx => h x (List.mem_cons_of_mem _ hx)
    unfold allS at *
    rw [List.flatMap_cons, List.length_append, List.length_cons]
    omega
/-- What may be linked: at most 480 sections, of at most 5000 mends, whose names are short. -/
structure Fine (S : List Section) : Prop where
  few : S.length ≤ 480
  mends : ∀ s ∈ S, s.name.size ≤ 12 ∧ s.mends.length ≤ 5000 ∧ ∀ m ∈ s.mends, m.name.size ≤ 12
theorem fine_of {l : List Object} (h : (linkF l).1 = 0) : Fine (allS l) := by
  obtain ⟨_, _, h2, h3⟩ := linkF_ok h
  have h4 : ∀ o ∈ l, ObjOk o := fun o ho => by
    obtain ⟨k, hk, e⟩ := List.mem_iff_getElem.1 ho
    exact (h3 k o (by rw [List.getElem?_eq_getElem hk, e])).ok
  refine ⟨Nat.le_trans (allS_len fun o ho => (h4 o ho).few) (by omega), fun s hs => ?_⟩
  obtain ⟨o, ho, hs⟩ := List.mem_flatMap.1 hs
  obtain ⟨k, hk, e⟩ := List.mem_iff_getElem.1 hs
  have h5 := (h4 o ho).secs k s (by rw [List.getElem?_eq_getElem hk, e])
  obtain ⟨_, h7, h8⟩ := secF_ok h5.fine
  exact ⟨(goodName_len h5.good).2, h7, fun m hm => (goodName_len (h8 m hm).2.2).2⟩

/-- Two rows of names, each of the call's own. -/
structure Two (w : World) (base : Nat) (vo vu : Value) (st : List ByteArray × List ByteArray) : Prop where
  ord : w.ownsRow base 9 1 vo st.1.length (st.1.flatMap strCells)
  und : w.ownsRow base 9 1 vu st.2.length (st.2.flatMap strCells)
  ne : ∀ g, vo.ownBlock = some g → vu.ownBlock ≠ some g
theorem Two.below {w w' : World} {base : Nat} {vo vu : Value} {st : List ByteArray × List ByteArray} (h : Two w base vo vu st) (hb : Below w.heap.size w w') : Two w' base vo vu st := ⟨own_below h.ord hb, own_below h.und hb, h.ne⟩
theorem Two.set {w : World} {base : Nat} {vo vu : Value} {st : List ByteArray × List ByteArray} (h : Two w base vo vu st) (p : Addr) (hp : p.block < base) (u : Value) : Two (w.setCell p u) base vo vu st :=
  ⟨own_setCell_other h.ord (fun e => by have := (h.ord.lt _ e).1; omega) _, own_setCell_other h.und (fun e => by have := (h.und.lt _ e).1; omega) _, h.ne⟩
theorem own_made (w : World) {base : Nat} (hb : base ≤ w.heap.size) (s : ByteArray) : (w.alloc (Obj.cells #[.string s] 9)).ownsRow base 9 1 (.slice (some ⟨w.heap.size, 0, none⟩) 1 1) 1 [.string s] :=
  ⟨rfl, .inr ⟨w.heap.size, 1, #[.string s], rfl, hb, heap_alloc_new _ _, Nat.le_refl _, by decide, rfl, rfl⟩⟩
theorem Two.begin (w : World) {base : Nat} (hb : base ≤ w.heap.size) (s : ByteArray) : Two (w.alloc (Obj.cells #[.string s] 9)) base (.slice (some ⟨w.heap.size, 0, none⟩) 1 1) (.slice none 0 0) ([s], []) :=
  ⟨own_made w hb s, World.ownsRow_nil _ _ _ _, fun g e => (by simp [Value.ownBlock])⟩
theorem Two.push1 {w w3 : World} {base : Nat} {vo vu : Value} {st : List ByteArray × List ByteArray} (h : Two w base vo vu st) (o : Obj) (x : ByteArray) {g n cap : Nat}
    (hown : w3.ownsRow base 9 1 (.slice (some ⟨g, 0, none⟩) n cap) n (st.1.flatMap strCells ++ [.string x])) (hn : n = st.1.length + 1) (hg : (w.alloc o).grownBy w3 vo.ownBlock) (hat : vo.ownBlock = some g ∨ g = (w.alloc o).heap.size) :
    Two w3 base (.slice (some ⟨g, 0, none⟩) n cap) vu (st.1 ++ [x], st.2) := by
  refine ⟨?_, ?_, fun k e e' => ?_⟩
  · rw [List.flatMap_append, List.length_append]
    subst hn
    simpa [strCells] using hown
  · refine (own_below h.und ((Below.refl _ _).alloc (Nat.le_refl _) o)).kept hg ?_
    cases hvo : vo.ownBlock with
    | none => cases hvu : vu.ownBlock <;> simp
    | some k => exact .inr (h.ne k hvo)
  · obtain rfl : g = k := Option.some.inj e
    rcases hat with e2 | e2
    · exact h.ne g e2 e'
    · have := (h.und.lt _ e').2
      simp at e2
      omega
theorem Two.push2 {w w3 : World} {base : Nat} {vo vu : Value} {st : List ByteArray × List ByteArray} (h : Two w base vo vu st) (o : Obj) (x : ByteArray) {g n cap : Nat}
    (hown : w3.ownsRow base 9 1 (.slice (some ⟨g, 0, none⟩) n cap) n (st.2.flatMap strCells ++ [.string x])) (hn : n = st.2.length + 1) (hg : (w.alloc o).grownBy w3 vu.ownBlock) (hat : vu.ownBlock = some g ∨ g = (w.alloc o).heap.size) :
    Two w3 base vo (.slice (some ⟨g, 0, none⟩) n cap) (st.1, st.2 ++ [x]) := by
  refine ⟨?_, ?_, fun k e e' => ?_⟩
  · refine (own_below h.ord ((Below.refl _ _).alloc (Nat.le_refl _) o)).kept hg ?_
    cases hvu : vu.ownBlock with
    | none => cases hvo : vo.ownBlock <;> simp
    | some k => exact .inr (fun e => h.ne k e hvu)
  · rw [List.flatMap_append, List.length_append]
    subst hn
    simpa [strCells] using hown
  · obtain rfl : g = k := Option.some.inj e'
    rcases hat with e2 | e2
    · exact h.ne g e e2
    · have := (h.ord.lt _ e).2
      simp at e2
      omega
theorem three_cellsL {w : World} {b : Nat} {x y z : Value} {T : TypeId} (h : w.heap[b]? = some (.cells #[x, y, z] T (0, 0))) : w.cell? ⟨b, 0, none⟩ = some x ∧ w.cell? ⟨b, 1, none⟩ = some y ∧ w.cell? ⟨b, 2, none⟩ = some z ∧ w.frozen? ⟨b, 0, none⟩ = false ∧ w.frozen? ⟨b, 1, none⟩ = false ∧ w.frozen? ⟨b, 2, none⟩ = false := by
  refine ⟨?_, ?_, ?_, ?_, ?_, ?_⟩ <;> simp [World.cell?, World.frozen?, h]
theorem res_Section {fn : Func} {p : Tmp} (h : fn.results = #[.cell p 58]) {tmps : Array Value} {b : Nat} {w : World} {x y z : Value} {T : TypeId} (hp : tmps.getD p undef = .pointer (some ⟨b, 0, none⟩))
    (hc : w.heap[b]? = some (.cells #[x, y, z] T (0, 0))) : (results fn tmps).run Tryz.prog w = .ok (.agg #[x, y, z]) w := by
  have c0 : w.cell? ⟨b, 0, none⟩ = some x := by simp [World.cell?, hc]
  have c1 : w.cell? ⟨b, 1, none⟩ = some y := by simp [World.cell?, hc]
  have c2 : w.cell? ⟨b, 2, none⟩ = some z := by simp [World.cell?, hc]
  rw [Array.getD_eq_getD_getElem?] at hp
  simp [results, h, hp, go_sem, c0, c1, c2]

end Go.Proofs.YtcakodemngchpaaGreatDoor
