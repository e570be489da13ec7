/- Names in lists, objects that have a name: their contracts. LinkFault, as the document says it. LinkMet, as the document says it: two rows of names that grow side by side. -/
import Derived.Test.YtemakpjickbmnaaDoorBase
import Derived.Test.YtemakpjickbmnaaDoorRows
import Derived.IntWalk
import Derived.Deep.LoopGhost
import Derived.Deep.CutBlock
import Derived.Deep.DeepCutAuto
import Derived.Outline
import Derived.Test.YtemakpjickbmnaaDoorLinkW
import Derived.Test.YtemakpjickbmnaaDoorSecA
import Derived.Test.YtemakpjickbmnaaDoorPlainA
import Derived.Deep.RegionHeld3
import Derived.Test.YtemakpjickbmnaaDoorSameA
/- Names in lists, objects that have a name: their contracts. -/
namespace Go.Proofs.YtemakpjickbmnaaDoor
open Go.RowKit
set_option linter.unusedSimpArgs false
set_option linter.unusedVariables false

/-- The place of a name in a list; -1: none. -/
def idxB (l : List ByteArray) (nm : ByteArray) : Int := match l.findIdx? fun x => decide (x = nm) with
  | some k => (k : Int)
  | none => -1
theorem inB_take {l : List ByteArray} {nm : ByteArray} {k : Nat} (h : inB (l.take k) nm = false) {j : Nat} {x : ByteArray} (hj : j < k) (hx : l[j]? = some x) : x ≠ nm := by
  intro e
  obtain ⟨hl, e2⟩ := List.getElem?_eq_some_iff.1 hx
  have : inB (l.take k) nm = true := by
    rw [inB_iff]
    refine List.mem_iff_getElem.2 ⟨j, by rw [List.length_take]; omega, ?_⟩
    rw [List.getElem_take, e2, e]
  rw [h] at this
  cases this
theorem idx_some {l : List ByteArray} {nm : ByteArray} {k : Nat} (h : l[k]? = some nm) (hn : inB (l.take k) nm = false) : idxB l nm = (k : Int) := by
  obtain ⟨hk, e⟩ := List.getElem?_eq_some_iff.1 h
  unfold idxB
  have : (l.findIdx? fun x => decide (x = nm)) = some k := by
    rw [List.findIdx?_eq_some_iff_getElem]
    refine ⟨hk, by rw [e]; simp, fun j hj => ?_⟩
    have := inB_take hn hj (List.getElem?_eq_getElem (by omega))
    simp [this]
  rw [this]
theorem idx_none {l : List ByteArray} {nm : ByteArray} (hn : inB l nm = false) : idxB l nm = -1 := by
  unfold idxB
  have : (l.findIdx? fun x => decide (x = nm)) = none := by
    rw [List.findIdx?_eq_none_iff]
    intro x hx
    unfold inB at hn
    rw [List.any_eq_false] at hn
    simpa using hn x hx
  rw [this]
theorem idx_cases (l : List ByteArray) (nm : ByteArray) : (idxB l nm = -1 ∧ inB l nm = false) ∨ ∃ k : Nat, idxB l nm = (k : Int) ∧ k < l.length ∧ inB l nm = true := by
  unfold idxB
  cases h : l.findIdx? fun x => decide (x = nm) with
  | none =>
    rw [List.findIdx?_eq_none_iff] at h
    exact .inl ⟨rfl, by unfold inB; rw [List.any_eq_false]; simpa using h⟩
  | some k =>
    rw [List.findIdx?_eq_some_iff_getElem] at h
    obtain ⟨hk, hh, _⟩ := h
    refine .inr ⟨k, rfl, hk, ?_⟩
    rw [inB_iff]
    have : l[k] = nm := by simpa using hh
    exact this ▸ List.getElem_mem hk
theorem idx_neg {l : List ByteArray} {nm : ByteArray} : (decide (idxB l nm < 0)) = !inB l nm := by
  rcases idx_cases l nm with ⟨h1, h2⟩ | ⟨k, h1, _, h2⟩
  · rw [h1, h2]
    rfl
  · rw [h1, h2]
    exact decide_eq_false (by omega)
theorem inB_step {l : List ByteArray} {k : Nat} {x nm : ByteArray} (h : l[k]? = some x) : inB (l.take (k + 1)) nm = (inB (l.take k) nm || decide (x = nm)) := any_step (fun x : ByteArray => decide (x = nm)) h

set_option maxHeartbeats 1000000 in
theorem IndexS_calls (l : List ByteArray) (v : Value) (nm : ByteArray) (w : World) (h : rpStr.SL w w.heap.size l v) (R : Ending → World → Prop)
    (hR : R (.returned (.int .i64 (idxB l nm))) w) : Calls Tryd.prog 77 #[v, .string nm] w R := by
  obtain ⟨A, c, rfl, hm, hcap, h⟩ := h.cases_
  have HR := Lib.hid hR
  have H := Lib.hid h
  clear hR h
  go_enter Tryd.func77, Tryd.ntmps77
  go_wp2
  go_loopg [5, 8] l.length (fun g s5 i wr => ∃ k : Nat, k ≤ l.length ∧ g = l.length - k ∧ i = .int .i64 k ∧ inB (l.take k) nm = false ∧ wr = w)
  case atStart => exact ⟨0, Nat.zero_le _, rfl, rfl, rfl, rfl⟩
  case round =>
    obtain ⟨k, hk, rfl, rfl, ht, rfl⟩ := hrel
    rename World => w
    have Ht := Lib.hid ht
    have i1 : (0 : Int) ≤ (k : Int) := Int.natCast_nonneg _
    clear ht
    by_cases hlt : k < l.length
    · obtain ⟨b, off, s, rfl, hb, e, q0⟩ := H.out.str_at hlt
      have i2 : (k : Int) < (l.length : Int) := by omega
      have hne := name_eq nm s
      have Hst : Hid (inB (l.take (k + 1)) nm = decide (s = nm)) := Lib.hid (by rw [inB_step e, Ht.out]; simp)
      by_cases hx : s = nm
      · subst hx
        have hfin := HR.out
        rw [idx_some e Ht.out] at hfin
        have Hfin := Lib.hid hfin
        clear hfin HR
        rw [decide_eq_true rfl] at hne
        go_wp2
        exact Hfin.out
      · rw [decide_eq_false (fun e => hx e.symm)] at hne
        rw [decide_eq_false hx] at Hst
        have Hx := Lib.hid hx
        clear hx e
        go_wp2
        go_roundg (l.length - (k + 1))
        case measure => omega
        case rel => exact ⟨k + 1, hlt, rfl, by go_num, Hst.out, rfl⟩
    · obtain rfl : k = l.length := by omega
      rw [List.take_length] at Ht
      have hfin := HR.out
      rw [idx_none Ht.out] at hfin
      have Hfin := Lib.hid hfin
      clear hfin HR
      go_wp2
      exact Hfin.out
theorem ContainsStr_calls (l : List ByteArray) (v : Value) (nm : ByteArray) (w : World) (h : rpStr.SL w w.heap.size l v) (R : Ending → World → Prop)
    (hR : R (.returned (.bool (inB l nm))) w) : Calls Tryd.prog 117 #[v, .string nm] w R := by
  have HR := Lib.hid hR
  clear hR
  go_enter Tryd.func117, Tryd.ntmps117
  go_wp2_with fail
  refine IndexS_calls l _ nm _ h _ ?_
  rcases idx_cases l nm with ⟨h1, h2⟩ | ⟨k, h1, _, h2⟩
  · rw [h1]
    rw [h2] at HR
    clear h1 h2 h
    go_wp2
    exact HR.out
  · rw [h1]
    rw [h2] at HR
    have i1 : (0 : Int) ≤ (k : Int) := Int.natCast_nonneg _
    clear h1 h2 h
    go_wp2
    exact HR.out
end Go.Proofs.YtemakpjickbmnaaDoor

/- LinkFault, as the document says it. -/
namespace Go.Proofs.YtemakpjickbmnaaDoor
open Go.RowKit
set_option linter.unusedSimpArgs false
set_option linter.unusedVariables false

end Go.Proofs.YtemakpjickbmnaaDoor

/- LinkMet, as the document says it: two rows of names that grow side by side. -/
namespace Go.Proofs.YtemakpjickbmnaaDoor
open Go.RowKit
set_option linter.unusedSimpArgs false
set_option linter.unusedVariables false

def firstZ (l : List Section) (nm : ByteArray) : Int := match l.findIdx? fun s => decide (s.name = nm) with
  | some k => (k : Int)
  | none => -1
theorem FirstS.at_ {l : List Section} {nm : ByteArray} {r : Int} (h : FirstS l nm r) (hh : hasS l nm = true) : ∃ (j : Nat) (s : Section), r = (j : Int) ∧ l[j]? = some s ∧ s.name = nm ∧ hasS (l.take j) nm = false := by
  rcases h with ⟨_, hno⟩ | ⟨k, rfl, hk, hno, hyes⟩
  · rw [hno] at hh
    cases hh
  · have e : l[k]? = some l[k] := List.getElem?_eq_getElem hk
    refine ⟨k, l[k], rfl, e, ?_, hno⟩
    have := any_step (fun x : Section => decide (x.name = nm)) e
    unfold hasS at hyes hno
    rw [this, hno] at hyes
    simpa using hyes
theorem firstZ_at {l : List Section} {nm : ByteArray} {j : Nat} {s : Section} (h : l[j]? = some s) (hn : s.name = nm) (hno : hasS (l.take j) nm = false) : firstZ l nm = (j : Int) := by
  obtain ⟨hj, e⟩ := List.getElem?_eq_some_iff.1 h
  unfold firstZ
  have : (l.findIdx? fun s => decide (s.name = nm)) = some j := by
    rw [List.findIdx?_eq_some_iff_getElem]
    refine ⟨hj, by rw [e, hn]; simp, fun i hi => ?_⟩
    have h1 := hasS_false.1 hno l[i] (List.mem_iff_getElem.2 ⟨i, by rw [List.length_take]; omega, by rw [List.getElem_take]⟩)
    simp [h1]
  rw [this]
theorem FirstS.eq {l : List Section} {nm : ByteArray} {r : Int} (h : FirstS l nm r) (hh : hasS l nm = true) : r = firstZ l nm := by
  obtain ⟨j, s, rfl, h1, h2, h3⟩ := h.at_ hh
  exact (firstZ_at h1 h2 h3).symm
theorem firstZ_sec {l : List Section} {nm : ByteArray} (hh : hasS l nm = true) : ∃ (j : Nat) (s : Section), firstZ l nm = (j : Int) ∧ l[j]? = some s ∧ s.name = nm ∧ secFind l nm = some s := by
  unfold firstZ
  cases hf : l.findIdx? fun s => decide (s.name = nm) with
  | none =>
    rw [List.findIdx?_eq_none_iff] at hf
    obtain ⟨x, hx, e⟩ := hasS_true.1 hh
    have := hf x hx
    rw [e] at this
    simp at this
  | some j =>
    rw [List.findIdx?_eq_some_iff_getElem] at hf
    obtain ⟨hj, h1, h2⟩ := hf
    have hn : l[j].name = nm := by simpa using h1
    refine ⟨j, l[j], rfl, List.getElem?_eq_getElem hj, hn, ?_⟩
    unfold secFind
    rw [List.find?_eq_some_iff_getElem]
    exact ⟨by simpa using hn, j, hj, rfl, fun i hi => by have := h2 i hi; simpa using this⟩
theorem secFind_append {a b : List Section} {nm : ByteArray} : secFind (a ++ b) nm = if hasS a nm = true then secFind a nm else secFind b nm := by
  unfold secFind
  rw [List.find?_append]
  by_cases h : hasS a nm = true
  · rw [if_pos h]
    obtain ⟨s, h1, _⟩ := secFind_has h
    unfold secFind at h1
    rw [h1]
    rfl
  · rw [if_neg h]
    have := secFind_none (S := a) (nm := nm) (by simpa using h)
    unfold secFind at this
    rw [this]
    rfl
/-- The owner of a name, and its section. -/
theorem owner_sec {l : List Object} {nm : ByteArray} (h : hasS (allS l) nm = true) : ∃ (k : Nat) (o : Object), ownerL l nm = (k : Int) ∧ l[k]? = some o ∧ hasS o.sections nm = true ∧ secFind (allS l) nm = secFind o.sections nm := by
  unfold ownerL
  cases hf : l.findIdx? fun o => hasS o.sections nm with
  | none =>
    rw [List.findIdx?_eq_none_iff] at hf
    obtain ⟨o, ho, hh⟩ := hasS_allS.1 h
    rw [hf o ho] at hh
    cases hh
  | some k =>
    rw [List.findIdx?_eq_some_iff_getElem] at hf
    obtain ⟨hk, h1, h2⟩ := hf
    refine ⟨k, l[k], rfl, List.getElem?_eq_getElem hk, h1, ?_⟩
    have h3 : hasS (allS (l.take k)) nm = false := by
      cases hx : hasS (allS (l.take k)) nm with
      | false => rfl
      | true =>
        obtain ⟨o, ho, hh⟩ := hasS_allS.1 hx
        obtain ⟨j, hj, e⟩ := List.mem_iff_getElem.1 ho
        rw [List.length_take] at hj
        rw [List.getElem_take] at e
        have := h2 j (by omega)
        rw [e] at this
        exact absurd hh this
    have h4 : allS l = allS (l.take k) ++ (l[k].sections ++ allS (l.drop (k + 1))) := by
      unfold allS
      conv => lhs; rw [← List.take_append_drop k l]
      rw [List.flatMap_append, List.drop_eq_getElem_cons hk, List.flatMap_cons]
    rw [h4, secFind_append, if_neg (by rw [h3]; simp), secFind_append, if_pos h1]
theorem allS_len {l : List Object} (h : ∀ o ∈ l, o.sections.length ≤ 40) : (allS l).length ≤ 40 * l.length := by
  induction l with
  | nil => exact Nat.zero_le _
  | cons o l ih =>
    have := h o (List.mem_cons_self ..)
    have := ih fun x hx => h x (List.mem_cons_of_mem _ hx)
    unfold allS at *
    rw [List.flatMap_cons, List.length_append, List.length_cons]
    omega
/-- What may be linked: at most 480 sections, of at most 5000 mends, whose names are short. -/
structure Fine (S : List Section) : Prop where
  few : S.length ≤ 480
  mends : ∀ s ∈ S, s.name.size ≤ 12 ∧ s.mends.length ≤ 5000 ∧ ∀ m ∈ s.mends, m.name.size ≤ 12
theorem fine_of {l : List Object} (h : (linkF l).1 = 0) : Fine (allS l) := by
  obtain ⟨_, _, h2, h3⟩ := linkF_ok h
  have h4 : ∀ o ∈ l, ObjOk o := fun o ho => by
    obtain ⟨k, hk, e⟩ := List.mem_iff_getElem.1 ho
    exact (h3 k o (by rw [List.getElem?_eq_getElem hk, e])).ok
  refine ⟨Nat.le_trans (allS_len fun o ho => (h4 o ho).few) (by omega), fun s hs => ?_⟩
  obtain ⟨o, ho, hs⟩ := List.mem_flatMap.1 hs
  obtain ⟨k, hk, e⟩ := List.mem_iff_getElem.1 hs
  have h5 := (h4 o ho).secs k s (by rw [List.getElem?_eq_getElem hk, e])
  obtain ⟨_, h7, h8⟩ := secF_ok h5.fine
  exact ⟨(goodName_len h5.good).2, h7, fun m hm => (goodName_len (h8 m hm).2.2).2⟩

/-- Two rows of names, each of the call's own. -/
structure Two (w : World) (base : Nat) (vo vu : Value) (st : List ByteArray × List ByteArray) : Prop where
  ord : w.ownsRow base 9 1 vo st.1.length (st.1.flatMap strCells)
  und : w.ownsRow base 9 1 vu st.2.length (st.2.flatMap strCells)
  ne : ∀ g, vo.ownBlock = some g → vu.ownBlock ≠ some g
theorem Two.below {w w' : World} {base : Nat} {vo vu : Value} {st : List ByteArray × List ByteArray} (h : Two w base vo vu st) (hb : Below w.heap.size w w') : Two w' base vo vu st := ⟨own_below h.ord hb, own_below h.und hb, h.ne⟩
theorem Two.set {w : World} {base : Nat} {vo vu : Value} {st : List ByteArray × List ByteArray} (h : Two w base vo vu st) (p : Addr) (hp : p.block < base) (u : Value) : Two (w.setCell p u) base vo vu st :=
  ⟨own_setCell_other h.ord (fun e => by have := (h.ord.lt _ e).1; omega) _, own_setCell_other h.und (fun e => by have := (h.und.lt _ e).1; omega) _, h.ne⟩
theorem own_made (w : World) {base : Nat} (hb : base ≤ w.heap.size) (s : ByteArray) : (w.alloc (Obj.cells #[.string s] 9)).ownsRow base 9 1 (.slice (some ⟨w.heap.size, 0, none⟩) 1 1) 1 [.string s] :=
  ⟨rfl, .inr ⟨w.heap.size, 1, #[.string s], rfl, hb, heap_alloc_new _ _, Nat.le_refl _, by decide, rfl, rfl⟩⟩
theorem Two.begin (w : World) {base : Nat} (hb : base ≤ w.heap.size) (s : ByteArray) : Two (w.alloc (Obj.cells #[.string s] 9)) base (.slice (some ⟨w.heap.size, 0, none⟩) 1 1) (.slice none 0 0) ([s], []) :=
  ⟨own_made w hb s, World.ownsRow_nil _ _ _ _, fun g e => (by simp [Value.ownBlock])⟩
theorem Two.push1 {w w3 : World} {base : Nat} {vo vu : Value} {st : List ByteArray × List ByteArray} (h : Two w base vo vu st) (o : Obj) (x : ByteArray) {g n cap : Nat}
    (hown : w3.ownsRow base 9 1 (.slice (some ⟨g, 0, none⟩) n cap) n (st.1.flatMap strCells ++ [.string x])) (hn : n = st.1.length + 1) (hg : (w.alloc o).grownBy w3 vo.ownBlock) (hat : vo.ownBlock = some g ∨ g = (w.alloc o).heap.size) :
    Two w3 base (.slice (some ⟨g, 0, none⟩) n cap) vu (st.1 ++ [x], st.2) := by
  refine ⟨?_, ?_, fun k e e' => ?_⟩
  · rw [List.flatMap_append, List.length_append]
    subst hn
    simpa [strCells] using hown
  · refine (own_below h.und ((Below.refl _ _).alloc (Nat.le_refl _) o)).kept hg ?_
    cases hvo : vo.ownBlock with
    | none => cases hvu : vu.ownBlock <;> simp
    | some k => exact .inr (h.ne k hvo)
  · obtain rfl : g = k := Option.some.inj e
    rcases hat with e2 | e2
    · exact h.ne g e2 e'
    · have := (h.und.lt _ e').2
      simp at e2
      omega
theorem Two.push2 {w w3 : World} {base : Nat} {vo vu : Value} {st : List ByteArray × List ByteArray} (h : Two w base vo vu st) (o : Obj) (x : ByteArray) {g n cap : Nat}
    (hown : w3.ownsRow base 9 1 (.slice (some ⟨g, 0, none⟩) n cap) n (st.2.flatMap strCells ++ [.string x])) (hn : n = st.2.length + 1) (hg : (w.alloc o).grownBy w3 vu.ownBlock) (hat : vu.ownBlock = some g ∨ g = (w.alloc o).heap.size) :
    Two w3 base vo (.slice (some ⟨g, 0, none⟩) n cap) (st.1, st.2 ++ [x]) := by
  refine ⟨?_, ?_, fun k e e' => ?_⟩
  · refine (own_below h.ord ((Below.refl _ _).alloc (Nat.le_refl _) o)).kept hg ?_
    cases hvu : vu.ownBlock with
    | none => cases hvo : vo.ownBlock <;> simp
    | some k => exact .inr (fun e => h.ne k e hvu)
  · rw [List.flatMap_append, List.length_append]
    subst hn
    simpa [strCells] using hown
  · obtain rfl : g = k := Option.some.inj e'
    rcases hat with e2 | e2
    · exact h.ne g e e2
    · have := (h.ord.lt _ e).2
      simp at e2
      omega
theorem three_cellsL {w : World} {b : Nat} {x y z : Value} {T : TypeId} (h : w.heap[b]? = some (.cells #[x, y, z] T (0, 0))) : w.cell? ⟨b, 0, none⟩ = some x ∧ w.cell? ⟨b, 1, none⟩ = some y ∧ w.cell? ⟨b, 2, none⟩ = some z ∧ w.frozen? ⟨b, 0, none⟩ = false ∧ w.frozen? ⟨b, 1, none⟩ = false ∧ w.frozen? ⟨b, 2, none⟩ = false := by
  refine ⟨?_, ?_, ?_, ?_, ?_, ?_⟩ <;> simp [World.cell?, World.frozen?, h]
theorem res_Section {fn : Func} {p : Tmp} (h : fn.results = #[.cell p 71]) {tmps : Array Value} {b : Nat} {w : World} {x y z : Value} {T : TypeId} (hp : tmps.getD p undef = .pointer (some ⟨b, 0, none⟩))
    (hc : w.heap[b]? = some (.cells #[x, y, z] T (0, 0))) : (results fn tmps).run Tryd.prog w = .ok (.agg #[x, y, z]) w := by
  have c0 : w.cell? ⟨b, 0, none⟩ = some x := by simp [World.cell?, hc]
  have c1 : w.cell? ⟨b, 1, none⟩ = some y := by simp [World.cell?, hc]
  have c2 : w.cell? ⟨b, 2, none⟩ = some z := by simp [World.cell?, hc]
  rw [Array.getD_eq_getD_getElem?] at hp
  simp [results, h, hp, go_sem, c0, c1, c2]

end Go.Proofs.YtemakpjickbmnaaDoor
