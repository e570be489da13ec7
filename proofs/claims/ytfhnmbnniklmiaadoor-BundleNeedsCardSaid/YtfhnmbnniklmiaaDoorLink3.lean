/- LinkMet, as the document says it: two rows of names that grow side by side. -/
import Derived.Test.YtfhnmbnniklmiaaDoorBase
import Derived.Test.YtfhnmbnniklmiaaDoorRows
import Derived.IntWalk
import Derived.Deep.LoopGhost
import Derived.Deep.CutBlock
import Derived.Deep.DeepCutAuto
import Derived.Deep.RegionHeld3
import Derived.Outline
import Derived.Test.YtfhnmbnniklmiaaDoorLink2
namespace Go.Proofs.YtfhnmbnniklmiaaDoor
open Go.RowKit
set_option linter.unusedSimpArgs false
set_option linter.unusedVariables false

def firstZ (l : List Section) (nm : ByteArray) : Int := match l.findIdx? fun s => decide (s.name = nm) with
  | some k => (k : Int)
  | none => -1
theorem FirstS.at_ {l : List Section} {nm : ByteArray} {r : Int} (h : FirstS l nm r) (hh : hasS l nm = true) : ∃ (j : Nat) (s : Section), r = (j : Int) ∧ l[j]? = some s ∧ s.name = nm ∧ hasS (l.take j) nm = false := by
  rcases h with ⟨_, hno⟩ | ⟨k, rfl, hk, hno, hyes⟩
  · rw [hno] at hh
    cases hh
  · have e : l[k]? = some l[k] := List.getElem?_eq_getElem hk
    refine ⟨k, l[k], rfl, e, ?_, hno⟩
    have := any_step (fun x : Section => decide (x.name = nm)) e
    unfold hasS at hyes hno
    rw [this, hno] at hyes
    simpa using hyes
theorem firstZ_at {l : List Section} {nm : ByteArray} {j : Nat} {s : Section} (h : l[j]? = some s) (hn : s.name = nm) (hno : hasS (l.take j) nm = false) : firstZ l nm = (j : Int) := by
  obtain ⟨hj, e⟩ := List.getElem?_eq_some_iff.1 h
  unfold firstZ
  have : (l.findIdx? fun s => decide (s.name = nm)) = some j := by
    rw [List.findIdx?_eq_some_iff_getElem]
    refine ⟨hj, by rw [e, hn]; simp, fun i hi => ?_⟩
    have h1 := hasS_false.1 hno l[i] (List.mem_iff_getElem.2 ⟨i, by rw [List.length_take]; omega, by rw [List.getElem_take]⟩)
    simp [h1]
  rw [this]
theorem FirstS.eq {l : List Section} {nm : ByteArray} {r : Int} (h : FirstS l nm r) (hh : hasS l nm = true) : r = firstZ l nm := by
  obtain ⟨j, s, rfl, h1, h2, h3⟩ := h.at_ hh
  exact (firstZ_at h1 h2 h3).symm
theorem firstZ_sec {l : List Section} {nm : ByteArray} (hh : hasS l nm = true) : ∃ (j : Nat) (s : Section), firstZ l nm = (j : Int) ∧ l[j]? = some s ∧ s.name = nm ∧ secFind l nm = some s := by
  unfold firstZ
  cases hf : l.findIdx? fun s => decide (s.name = nm) with
  | none =>
    rw [List.findIdx?_eq_none_iff] at hf
    obtain ⟨x, hx, e⟩ := hasS_true.1 hh
    have := hf x hx
    rw [e] at this
    simp at this
  | some j =>
    rw [List.findIdx?_eq_some_iff_getElem] at hf
    obtain ⟨hj, h1, h2⟩ := hf
    have hn : l[j].name = nm := by simpa using h1
    refine ⟨j, l[j], rfl, List.getElem?_eq_getElem hj, hn, ?_⟩
    unfold secFind
    rw [List.find?_eq_some_iff_getElem]
    exact ⟨by simpa using hn, j, hj, rfl, fun i hi => by have := h2 i hi; simpa using this⟩
theorem secFind_append {a b : List Section} {nm : ByteArray} : secFind (a ++ b) nm = if hasS a nm = true then secFind a nm else secFind b nm := by
  unfold secFind
  rw [List.find?_append]
  by_cases h : hasS a nm = true
  · rw [if_pos h]
    obtain ⟨s, h1, _⟩ := secFind_has h
    unfold secFind at h1
    rw [h1]
    rfl
  · rw [if_neg h]
    have := secFind_none (S := a) (nm := nm) (by simpa using h)
    unfold secFind at this
    rw [this]
    rfl
/-- The owner of a name, and its section. -/
theorem owner_sec {l : List Object} {nm : ByteArray} (h : hasS (allS l) nm = true) : ∃ (k : Nat) (o : Object), ownerL l nm = (k : Int) ∧ l[k]? = some o ∧ hasS o.sections nm = true ∧ secFind (allS l) nm = secFind o.sections nm := by
  unfold ownerL
  cases hf : l.findIdx? fun o => hasS o.sections nm with
  | none =>
    rw [List.findIdx?_eq_none_iff] at hf
    obtain ⟨o, ho, hh⟩ := hasS_allS.1 h
    rw [hf o ho] at hh
    cases hh
  | some k =>
    rw [List.findIdx?_eq_some_iff_getElem] at hf
    obtain ⟨hk, h1, h2⟩ := hf
    refine ⟨k, l[k], rfl, List.getElem?_eq_getElem hk, h1, ?_⟩
    have h3 : hasS (allS (l.take k)) nm = false := by
      cases hx : hasS (allS (l.take k)) nm with
      | false => rfl
      | true =>
        obtain ⟨o, ho, hh⟩ := hasS_allS.1 hx
        obtain ⟨j, hj, e⟩ := List.mem_iff_getElem.1 ho
        rw [List.length_take] at hj
        rw [List.getElem_take] at e
        have := h2 j (by omega)
        rw [e] at this
        exact absurd hh this
    have h4 : allS l = allS (l.take k) ++ (l[k].sections ++ allS (l.drop (k + 1))) := by
      unfold allS
      conv => lhs; rw [← List.take_append_drop k l]
      rw [List.flatMap_append, List.drop_eq_getElem_cons hk, List.flatMap_cons]
    rw [h4, secFind_append, if_neg (by rw [h3]; simp), secFind_append, if_pos h1]
theorem allS_len {l : List Object} (h : ∀ o ∈ l, o.sections.length ≤ 40) : (allS l).length ≤ 40 * l.length := by
  induction l with
  | nil => exact Nat.zero_le _
  | cons o l ih =>
    have := h o (List.mem_cons_self ..)
    have := ih fun x hx => h x (List.mem_cons_of_mem _ hx)
    unfold allS at *
    rw [List.flatMap_cons, List.length_append, List.length_cons]
    omega
/-- What may be linked: at most 480 sections, of at most 5000 mends, whose names are short. -/
structure Fine (S : List Section) : Prop where
  few : S.length ≤ 480
  mends : ∀ s ∈ S, s.name.size ≤ 12 ∧ s.mends.length ≤ 5000 ∧ ∀ m ∈ s.mends, m.name.size ≤ 12
theorem fine_of {l : List Object} (h : (linkF l).1 = 0) : Fine (allS l) := by
  obtain ⟨_, _, h2, h3⟩ := linkF_ok h
  have h4 : ∀ o ∈ l, ObjOk o := fun o ho => by
    obtain ⟨k, hk, e⟩ := List.mem_iff_getElem.1 ho
    exact (h3 k o (by rw [List.getElem?_eq_getElem hk, e])).ok
  refine ⟨Nat.le_trans (allS_len fun o ho => (h4 o ho).few) (by omega), fun s hs => ?_⟩
  obtain ⟨o, ho, hs⟩ := List.mem_flatMap.1 hs
  obtain ⟨k, hk, e⟩ := List.mem_iff_getElem.1 hs
  have h5 := (h4 o ho).secs k s (by rw [List.getElem?_eq_getElem hk, e])
  obtain ⟨_, h7, h8⟩ := secF_ok h5.fine
  exact ⟨(goodName_len h5.good).2, h7, fun m hm => (goodName_len (h8 m hm).2.2).2⟩

/-- Two rows of names, each of the call's own. -/
structure Two (w : World) (base : Nat) (vo vu : Value) (st : List ByteArray × List ByteArray) : Prop where
  ord : w.ownsRow base 9 1 vo st.1.length (st.1.flatMap strCells)
  und : w.ownsRow base 9 1 vu st.2.length (st.2.flatMap strCells)
  ne : ∀ g, vo.ownBlock = some g → vu.ownBlock ≠ some g
theorem Two.below {w w' : World} {base : Nat} {vo vu : Value} {st : List ByteArray × List ByteArray} (h : Two w base vo vu st) (hb : Below w.heap.size w w') : Two w' base vo vu st := ⟨own_below h.ord hb, own_below h.und hb, h.ne⟩
theorem Two.set {w : World} {base : Nat} {vo vu : Value} {st : List ByteArray × List ByteArray} (h : Two w base vo vu st) (p : Addr) (hp : p.block < base) (u : Value) : Two (w.setCell p u) base vo vu st :=
  ⟨own_setCell_other h.ord (fun e => by have := (h.ord.lt _ e).1; omega) _, own_setCell_other h.und (fun e => by have := (h.und.lt _ e).1; omega) _, h.ne⟩
theorem own_made (w : World) {base : Nat} (hb : base ≤ w.heap.size) (s : ByteArray) : (w.alloc (Obj.cells #[.string s] 9)).ownsRow base 9 1 (.slice (some ⟨w.heap.size, 0, none⟩) 1 1) 1 [.string s] :=
  ⟨rfl, .inr ⟨w.heap.size, 1, #[.string s], rfl, hb, heap_alloc_new _ _, Nat.le_refl _, by decide, rfl, rfl⟩⟩
theorem Two.begin (w : World) {base : Nat} (hb : base ≤ w.heap.size) (s : ByteArray) : Two (w.alloc (Obj.cells #[.string s] 9)) base (.slice (some ⟨w.heap.size, 0, none⟩) 1 1) (.slice none 0 0) ([s], []) :=
  ⟨own_made w hb s, World.ownsRow_nil _ _ _ _, fun g e => (by simp [Value.ownBlock])⟩
theorem Two.push1 {w w3 : World} {base : Nat} {vo vu : Value} {st : List ByteArray × List ByteArray} (h : Two w base vo vu st) (o : Obj) (x : ByteArray) {g n cap : Nat}
    (hown : w3.ownsRow base 9 1 (.slice (some ⟨g, 0, none⟩) n cap) n (st.1.flatMap strCells ++ [.string x])) (hn : n = st.1.length + 1) (hg : (w.alloc o).grownBy w3 vo.ownBlock) (hat : vo.ownBlock = some g ∨ g = (w.alloc o).heap.size) :
    Two w3 base (.slice (some ⟨g, 0, none⟩) n cap) vu (st.1 ++ [x], st.2) := by
  refine ⟨?_, ?_, fun k e e' => ?_⟩
  · rw [List.flatMap_append, List.length_append]
    subst hn
    simpa [strCells] using hown
  · refine (own_below h.und ((Below.refl _ _).alloc (Nat.le_refl _) o)).kept hg ?_
    cases hvo : vo.ownBlock with
    | none => cases hvu : vu.ownBlock <;> simp
    | some k => exact .inr (h.ne k hvo)
  · obtain rfl : g = k := Option.some.inj e
    rcases hat with e2 | e2
    · exact h.ne g e2 e'
    · have := (h.und.lt _ e').2
      simp at e2
      omega
theorem Two.push2 {w w3 : World} {base : Nat} {vo vu : Value} {st : List ByteArray × List ByteArray} (h : Two w base vo vu st) (o : Obj) (x : ByteArray) {g n cap : Nat}
    (hown : w3.ownsRow base 9 1 (.slice (some ⟨g, 0, none⟩) n cap) n (st.2.flatMap strCells ++ [.string x])) (hn : n = st.2.length + 1) (hg : (w.alloc o).grownBy w3 vu.ownBlock) (hat : vu.ownBlock = some g ∨ g = (w.alloc o).heap.size) :
    Two w3 base vo (.slice (some ⟨g, 0, none⟩) n cap) (st.1, st.2 ++ [x]) := by
  refine ⟨?_, ?_, fun k e e' => ?_⟩
  · refine (own_below h.ord ((Below.refl _ _).alloc (Nat.le_refl _) o)).kept hg ?_
    cases hvu : vu.ownBlock with
    | none => cases hvo : vo.ownBlock <;> simp
    | some k => exact .inr (fun e => h.ne k e hvu)
  · rw [List.flatMap_append, List.length_append]
    subst hn
    simpa [strCells] using hown
  · obtain rfl : g = k := Option.some.inj e'
    rcases hat with e2 | e2
    · exact h.ne g e e2
    · have := (h.ord.lt _ e).2
      simp at e2
      omega
theorem three_cellsL {w : World} {b : Nat} {x y z : Value} {T : TypeId} (h : w.heap[b]? = some (.cells #[x, y, z] T (0, 0))) : w.cell? ⟨b, 0, none⟩ = some x ∧ w.cell? ⟨b, 1, none⟩ = some y ∧ w.cell? ⟨b, 2, none⟩ = some z ∧ w.frozen? ⟨b, 0, none⟩ = false ∧ w.frozen? ⟨b, 1, none⟩ = false ∧ w.frozen? ⟨b, 2, none⟩ = false := by
  refine ⟨?_, ?_, ?_, ?_, ?_, ?_⟩ <;> simp [World.cell?, World.frozen?, h]
theorem res_Section {fn : Func} {p : Tmp} (h : fn.results = #[.cell p 64]) {tmps : Array Value} {b : Nat} {w : World} {x y z : Value} {T : TypeId} (hp : tmps.getD p undef = .pointer (some ⟨b, 0, none⟩))
    (hc : w.heap[b]? = some (.cells #[x, y, z] T (0, 0))) : (results fn tmps).run Tryd.prog w = .ok (.agg #[x, y, z]) w := by
  have c0 : w.cell? ⟨b, 0, none⟩ = some x := by simp [World.cell?, hc]
  have c1 : w.cell? ⟨b, 1, none⟩ = some y := by simp [World.cell?, hc]
  have c2 : w.cell? ⟨b, 2, none⟩ = some z := by simp [World.cell?, hc]
  rw [Array.getD_eq_getD_getElem?] at hp
  simp [results, h, hp, go_sem, c0, c1, c2]

set_option maxRecDepth 100000 in
set_option maxHeartbeats 4000000 in
theorem SectionOf_calls (l : List Object) (v : Value) (nm : ByteArray) (w0 w : World) (h : rpObject.SL w0 w0.heap.size l v) (hw : Below w0.heap.size w0 w) (hh : hasS (allS l) nm = true) (R : Ending → World → Prop)
    (hR : ∀ w' s A1 c1 A2 c2, Below w.heap.size w w' → secFind (allS l) nm = some s → rpByte.SL w0 w0.heap.size s.code (.slice A1 s.code.length c1) → rpMend.SL w0 w0.heap.size s.mends (.slice A2 s.mends.length c2) →
      R (.returned (.agg #[.string s.name, .slice A1 s.code.length c1, .slice A2 s.mends.length c2])) w') : Calls Tryd.prog 37 #[v, .string nm] w R := by
  obtain ⟨k, o, ho, e, hho, hsec⟩ := owner_sec hh
  obtain ⟨j, s, hj, ej, hn, hsf⟩ := firstZ_sec hho
  rw [hsf] at hsec
  obtain ⟨A, c, rfl, hm, hcap, h⟩ := h.cases_
  have hk := (List.getElem?_eq_some_iff.1 e).1
  have hjl := (List.getElem?_eq_some_iff.1 ej).1
  obtain ⟨b, off, o', v1, v2, rfl, hb, e', h1, h2, r0, r1⟩ := h.object_at hk
  rw [e] at e'
  cases e'
  obtain ⟨A1, n1, rfl, _, _, h1⟩ := h1.cases_
  obtain ⟨A2, n2, rfl, _, _, h2⟩ := h2.cases_
  obtain ⟨b2, off2, s', u1, u2, rfl, hb2, e2, h3, h4, t0, t1, t2⟩ := h2.section_at hjl
  rw [ej] at e2
  cases e2
  obtain ⟨A3, n3, rfl, _, _, h3⟩ := h3.cases_
  obtain ⟨A4, n4, rfl, _, _, h4⟩ := h4.cases_
  replace r0 := (hw.cell (p := ⟨b, off + k * 2, none⟩) hb).trans r0
  replace r1 := (hw.cell (p := ⟨b, off + k * 2 + 1, none⟩) hb).trans r1
  replace t0 := (hw.cell (p := ⟨b2, off2 + j * 3, none⟩) hb2).trans t0
  replace t1 := (hw.cell (p := ⟨b2, off2 + j * 3 + 1, none⟩) hb2).trans t1
  replace t2 := (hw.cell (p := ⟨b2, off2 + j * 3 + 2, none⟩) hb2).trans t2
  replace hb : b < w.heap.size := by have := hw.size; omega
  replace hb2 : b2 < w.heap.size := by have := hw.size; omega
  replace h := h.up hw hw.size
  replace h2 := h2.up hw hw.size
  have hfin : Hid (∀ w', Below w.heap.size w w' → R (.returned (.agg #[.string s.name, .slice A3 s.code.length n3, .slice A4 s.mends.length n4])) w') := Lib.hid fun w' hb => hR w' s A3 n3 A4 n4 hb hsec h3 h4
  have H := Lib.hid h
  have H2 := Lib.hid h2
  have Hho := Lib.hid hho
  have Hj := Lib.hid hj
  have HO := Lib.hid ho
  obtain ⟨W0, hW0⟩ : ∃ W0, W0 = w.alloc (Obj.cells #[.string ⟨#[]⟩, .slice none 0 0, .slice none 0 0] 64) := ⟨_, rfl⟩
  have hb0 : Below w.heap.size w W0 := by subst hW0; exact bl0
  have hz0 : W0.heap.size = w.heap.size + 1 := by subst hW0; simp
  have hQ : W0.heap[w.heap.size]? = some (.cells #[.string ⟨#[]⟩, .slice none 0 0, .slice none 0 0] 64 (0, 0)) := by subst hW0; exact heap_alloc_new _ _
  have HW := Lib.hid hW0.symm
  have HQ := Lib.hid hQ
  have Hb0 := Lib.hid hb0
  have i1 : (0 : Int) ≤ (k : Int) := Int.natCast_nonneg _
  have i2 : (k : Int) < (l.length : Int) := by omega
  have i3 : (0 : Int) ≤ (j : Int) := Int.natCast_nonneg _
  have i4 : (j : Int) < (o.sections.length : Int) := by omega
  clear hR h h1 h2 h3 h4 hh hho hsec hsf hj ho e ej hn hW0 hQ
  go_enter Tryd.func37, Tryd.ntmps37
  go_upto_region 1 with fail
  rw [HW.out]
  go_wp2_with fail
  refine Owner_calls l _ nm _ (H.out.up Hb0.out Hb0.out.size) _ (fun w1 hb1 => ?_)
  rw [HO.out]
  have hbw := Hb0.out.trans (hb1.mono Hb0.out.size)
  have p0 := (hbw.cell (p := ⟨b, off + k * 2, none⟩) hb).trans r0
  have p1 := (hbw.cell (p := ⟨b, off + k * 2 + 1, none⟩) hb).trans r1
  have hQ1 := (hb1.block _ (by omega)).trans HQ.out
  have hz1 := hb1.size
  obtain ⟨W1, hW1⟩ : ∃ W1, W1 = w1.alloc (Obj.cells #[.slice A1 o.globals.length n1, .slice (some ⟨b2, off2, none⟩) o.sections.length n2] 47) := ⟨_, rfl⟩
  have hV1 : W1.heap[w1.heap.size]? = some (.cells #[.slice A1 o.globals.length n1, .slice (some ⟨b2, off2, none⟩) o.sections.length n2] 47 (0, 0)) := by subst hW1; exact heap_alloc_new _ _
  have hbW1 : Below w1.heap.size w1 W1 := by subst hW1; exact bl0
  have hbb : Below W0.heap.size W0 W1 := hb1.trans (hbW1.mono hz1)
  have HbW := Lib.hid (hbw.trans (hbW1.mono hbw.size))
  have Hbb := Lib.hid hbb
  have hQW := (hbb.block _ (by omega)).trans HQ.out
  have HQW := Lib.hid hQW
  have HW1 := Lib.hid hW1.symm
  obtain ⟨c0, c1⟩ := cells_blk hV1
  have hl1 : w1.heap.size < W1.heap.size := blk_lt hV1
  have hlQ : w.heap.size < W1.heap.size := blk_lt hQW
  obtain ⟨qv, hqv⟩ : ∃ qv : World → Nat → Value, ∀ W j, qv W j = (W.cell? ⟨w.heap.size, j, none⟩).getD undef := ⟨_, fun _ _ => rfl⟩
  have Hqv := Lib.hid hqv
  clear hqv
  have HSS : Hid (∀ W, Grew (fun b => b = w.heap.size) W1 W → (∃ x y z, W.heap[w.heap.size]? = some (.cells #[x, y, z] 64 (0, 0))) → (fun W : World => W.cell? ⟨w1.heap.size, 0, none⟩ = some (.slice A1 o.globals.length n1) ∧ W.cell? ⟨w1.heap.size, 1, none⟩ = some (.slice (some ⟨b2, off2, none⟩) o.sections.length n2) ∧ W.cell? ⟨b2, off2 + j * 3, none⟩ = some (.string s.name) ∧ W.cell? ⟨b2, off2 + j * 3 + 1, none⟩ = some (.slice A3 s.code.length n3) ∧ W.cell? ⟨b2, off2 + j * 3 + 2, none⟩ = some (.slice A4 s.mends.length n4) ∧ W.cell? ⟨w.heap.size, 0, none⟩ = some (qv W 0) ∧ W.cell? ⟨w.heap.size, 1, none⟩ = some (qv W 1) ∧ W.cell? ⟨w.heap.size, 2, none⟩ = some (qv W 2) ∧ W.frozen? ⟨w.heap.size, 0, none⟩ = false ∧ W.frozen? ⟨w.heap.size, 1, none⟩ = false ∧ W.frozen? ⟨w.heap.size, 2, none⟩ = false ∧ w.heap.size < W.heap.size ∧ Hid (Grew (fun b => b = w.heap.size) W1 W ∧ ∃ x y z, W.heap[w.heap.size]? = some (.cells #[x, y, z] 64 (0, 0)))) W) := Lib.hid fun W h hx => by
    obtain ⟨x, y, z, hx1⟩ := id hx
    obtain ⟨q0, q1, q2, z0, z1, z2⟩ := three_cellsL hx1
    have hc : ∀ b o, b < W1.heap.size → b ≠ w.heap.size → W.cell? ⟨b, o, none⟩ = W1.cell? ⟨b, o, none⟩ := fun b o h1 h2 => World.cell?_of_block (h.block b h1 h2)
    have hc2 : ∀ b o, b < w.heap.size → W.cell? ⟨b, o, none⟩ = w.cell? ⟨b, o, none⟩ := fun b o h1 => (hc b o (by have := HbW.out.size; omega) (by omega)).trans (HbW.out.cell (p := ⟨b, o, none⟩) h1)
    exact ⟨(hc _ _ hl1 (by omega)).trans c0, (hc _ _ hl1 (by omega)).trans c1, (hc2 _ _ hb2).trans t0, (hc2 _ _ hb2).trans t1, (hc2 _ _ hb2).trans t2, by rw [Hqv.out, q0]; rfl, by rw [Hqv.out, q1]; rfl, by rw [Hqv.out, q2]; rfl, z0, z1, z2, Nat.lt_of_lt_of_le hlQ h.size, Lib.hid ⟨h, hx⟩⟩
  have hS0 := HSS.out W1 (Grew.refl _ _) ⟨_, _, _, hQW⟩
  have hS1 := HSS.out W1.drew (Grew.refl _ _).drew ⟨_, _, _, blk_drew hQW⟩
  have hwne : w1.heap.size ≠ w.heap.size := by omega
  clear hb1 hbw hQ1 hW1 hV1 hbW1 hbb hQW t0 t1 t2 r0 r1
  go_upto_region 2 with fail
  rw [HW1.out]
  clear p0 p1 c0 c1
  go_region_held3 (fun W : World => W.cell? ⟨w1.heap.size, 0, none⟩ = some (.slice A1 o.globals.length n1) ∧ W.cell? ⟨w1.heap.size, 1, none⟩ = some (.slice (some ⟨b2, off2, none⟩) o.sections.length n2) ∧ W.cell? ⟨b2, off2 + j * 3, none⟩ = some (.string s.name) ∧ W.cell? ⟨b2, off2 + j * 3 + 1, none⟩ = some (.slice A3 s.code.length n3) ∧ W.cell? ⟨b2, off2 + j * 3 + 2, none⟩ = some (.slice A4 s.mends.length n4) ∧ W.cell? ⟨w.heap.size, 0, none⟩ = some (qv W 0) ∧ W.cell? ⟨w.heap.size, 1, none⟩ = some (qv W 1) ∧ W.cell? ⟨w.heap.size, 2, none⟩ = some (qv W 2) ∧ W.frozen? ⟨w.heap.size, 0, none⟩ = false ∧ W.frozen? ⟨w.heap.size, 1, none⟩ = false ∧ W.frozen? ⟨w.heap.size, 2, none⟩ = false ∧ w.heap.size < W.heap.size ∧ Hid (Grew (fun b => b = w.heap.size) W1 W ∧ ∃ x y z, W.heap[w.heap.size]? = some (.cells #[x, y, z] 64 (0, 0)))) (first | with_reducible exact hS0 | with_reducible exact hS1 | with_reducible exact hS5 | with_reducible exact hS6) (first
    | (go_at_call 56; obtain ⟨_, _, _, _, _, _, _, _, _, _, _, _, he⟩ := ‹_ ∧ _ ∧ _ ∧ _ ∧ _ ∧ _ ∧ _ ∧ _ ∧ _ ∧ _ ∧ _ ∧ _ ∧ Hid _›; have hew := HbW.out.trans (he.out.1.below (B := w.heap.size) (fun j h1 h2 => absurd h2 (by omega)) HbW.out.size); refine HasSection_calls o.sections _ _ nm _ (H2.out.up hew hew.size) _ ?_; intro w5 r hf hb5; rw [hf.eq Hho.out, Hj.out]; have hg5 := he.out.1.on hb5; have hx5 : ∃ x y z, w5.heap[w.heap.size]? = some (.cells #[x, y, z] 64 (0, 0)) := (by obtain ⟨x, y, z, hx⟩ := he.out.2; exact ⟨x, y, z, (hb5.block _ (blk_lt hx)).trans hx⟩); have hS5 := HSS.out w5 hg5 hx5; have hq6 : (((w5.setCell ⟨w.heap.size, 0, none⟩ (.string s.name)).setCell ⟨w.heap.size, 1, none⟩ (.slice A3 s.code.length n3)).setCell ⟨w.heap.size, 2, none⟩ (.slice A4 s.mends.length n4)).heap[w.heap.size]? = some (.cells #[.string s.name, .slice A3 s.code.length n3, .slice A4 s.mends.length n4] 64 (0, 0)) := (by obtain ⟨x, y, z, hx⟩ := hx5; rw [block_set (block_set (block_set hx _) _) _]; rfl); have hg6 := ((hg5.setCell ⟨w.heap.size, 0, none⟩ (.inl rfl) (.string s.name)).setCell ⟨w.heap.size, 1, none⟩ (.inl rfl) (.slice A3 s.code.length n3)).setCell ⟨w.heap.size, 2, none⟩ (.inl rfl) (.slice A4 s.mends.length n4); have hS6 := HSS.out _ hg6 ⟨_, _, _, hq6⟩; have Hg6 := Lib.hid hg6; have Hq6 := Lib.hid hq6; clear hf hb5 hew hg5 hx5 hq6 hg6))
  all_goals
    have hbe := HbW.out.trans (Hg6.out.below (B := w.heap.size) (fun j h1 h2 => absurd h2 (by omega)) HbW.out.size)
    have Hend := Lib.hid (hfin.out _ hbe)
    clear hbe
    go_wp2
    exact bodyPost_ret (v := .agg #[.string s.name, .slice A3 s.code.length n3, .slice A4 s.mends.length n4]) (res_Section (by rfl) (by rfl) Hq6.out) rfl Hend.out
end Go.Proofs.YtfhnmbnniklmiaaDoor
