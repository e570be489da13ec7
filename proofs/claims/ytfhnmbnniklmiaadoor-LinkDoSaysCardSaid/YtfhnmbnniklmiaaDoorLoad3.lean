/- The reader's global and section; object.list of them. -/
import Derived.Test.YtfhnmbnniklmiaaDoorBase
import Derived.Test.YtfhnmbnniklmiaaDoorRows
import Derived.IntWalk
import Derived.Deep.LoopGhost
import Derived.Outline
import Derived.Lib.ConvBytes
import Derived.Test.YtfhnmbnniklmiaaDoorLoad2
namespace Go.Proofs.YtfhnmbnniklmiaaDoor
open Go.RowKit
set_option linter.unusedSimpArgs false
set_option linter.unusedVariables false

theorem three_set {w : World} {b : Nat} {x y z : Value} {T : TypeId} (h : w.heap[b]? = some (.cells #[x, y, z] T (0, 0))) : (∀ u, (w.setCell ⟨b, 0, none⟩ u).heap[b]? = some (.cells #[u, y, z] T (0, 0))) ∧ (∀ u, (w.setCell ⟨b, 1, none⟩ u).heap[b]? = some (.cells #[x, u, z] T (0, 0))) ∧ (∀ u, (w.setCell ⟨b, 2, none⟩ u).heap[b]? = some (.cells #[x, y, u] T (0, 0))) :=
  ⟨fun u => by rw [block_set h]; rfl, fun u => by rw [block_set h]; rfl, fun u => by rw [block_set h]; rfl⟩
theorem three_cells {w : World} {b : Nat} {x y z : Value} {T : TypeId} (h : w.heap[b]? = some (.cells #[x, y, z] T (0, 0))) : w.cell? ⟨b, 0, none⟩ = some x ∧ w.cell? ⟨b, 1, none⟩ = some y ∧ w.cell? ⟨b, 2, none⟩ = some z ∧ w.frozen? ⟨b, 0, none⟩ = false ∧ w.frozen? ⟨b, 1, none⟩ = false ∧ w.frozen? ⟨b, 2, none⟩ = false := by
  refine ⟨?_, ?_, ?_, ?_, ?_, ?_⟩ <;> simp [World.cell?, World.frozen?, h]
theorem res_Global {fn : Func} {p : Tmp} (h : fn.results = #[.cell p 111]) {tmps : Array Value} {b : Nat} {w : World} {x y z : Value} {T : TypeId} (hp : tmps.getD p undef = .pointer (some ⟨b, 0, none⟩))
    (hc : w.heap[b]? = some (.cells #[x, y, z] T (0, 0))) : (results fn tmps).run Tryd.prog w = .ok (.agg #[x, y, z]) w := by
  obtain ⟨c0, c1, c2, _⟩ := three_cells hc
  rw [Array.getD_eq_getD_getElem?] at hp
  simp [results, h, hp, go_sem, c0, c1, c2]
theorem res_Section {fn : Func} {p : Tmp} (h : fn.results = #[.cell p 64]) {tmps : Array Value} {b : Nat} {w : World} {x y z : Value} {T : TypeId} (hp : tmps.getD p undef = .pointer (some ⟨b, 0, none⟩))
    (hc : w.heap[b]? = some (.cells #[x, y, z] T (0, 0))) : (results fn tmps).run Tryd.prog w = .ok (.agg #[x, y, z]) w := by
  obtain ⟨c0, c1, c2, _⟩ := three_cells hc
  rw [Array.getD_eq_getD_getElem?] at hp
  simp [results, h, hp, go_sem, c0, c1, c2]
/-- Three things that are read, one behind the other. -/
theorem three_read {α β γ δ : Type} {A : Prs α} {B : Prs β} {C : Prs γ} {f : α → β → γ → δ} {bs r1 r2 r3 : List UInt8} {bad q1 q2 q3 : Bool} {x : α} {y : β} {z : γ} {D : Prs δ} (hD : ∀ bs, D bs = (A bs).bind fun a => (B a.2).bind fun b => (C b.2).map fun c => (f a.1 b.1 c.1, c.2))
    (a0 : q1 = false → bad = false ∧ A bs = some (x, r1)) (a1 : q1 = true → bad = true ∨ A bs = none) (b0 : q2 = false → q1 = false ∧ B r1 = some (y, r2)) (b1 : q2 = true → q1 = true ∨ B r1 = none)
    (c0 : q3 = false → q2 = false ∧ C r2 = some (z, r3)) (c1 : q3 = true → q2 = true ∨ C r2 = none) : (q3 = false → bad = false ∧ D bs = some (f x y z, r3)) ∧ (q3 = true → bad = true ∨ D bs = none) := by
  have hE := two_read (A := fun bs => (A bs).bind fun a => (B a.2).map fun b => ((a.1, b.1), b.2)) (B := C) (C := D) (f := fun a c => f a.1 a.2 c) (bs := bs) (r1 := r2) (r2 := r3) (bad := bad) (q1 := q2) (q2 := q3) (x := (x, y)) (y := z) (fun bs => by
    rw [hD]
    cases A bs with
    | none => rfl
    | some a =>
      cases hb : B a.2 with
      | none => simp [hb]
      | some b => simp [hb])
  have hab := two_read (A := A) (B := B) (C := fun bs => (A bs).bind fun a => (B a.2).map fun b => ((a.1, b.1), b.2)) (f := fun a b => (a, b)) (fun _ => rfl) a0 a1 b0 b1
  exact hE hab.1 hab.2 c0 c1
theorem globalL_short : Short globalL := fun bs g r h => by
  unfold globalL at h
  rw [Option.bind_eq_some_iff] at h
  obtain ⟨⟨s, r1⟩, h1, h2⟩ := h
  rw [Option.bind_eq_some_iff] at h2
  obtain ⟨⟨n, r2⟩, h3, h4⟩ := h2
  rw [Option.map_eq_some_iff] at h4
  obtain ⟨⟨xs, r3⟩, h5, h6⟩ := h4
  obtain ⟨_, rfl⟩ := Prod.mk.inj h6
  have := textL_short _ _ _ h1
  have := small_short _ _ _ h3
  have := listL_short intL_short _ _ _ h5
  simp only [] at *
  omega
theorem sectionL_short : Short sectionL := fun bs g r h => by
  unfold sectionL at h
  rw [Option.bind_eq_some_iff] at h
  obtain ⟨⟨s, r1⟩, h1, h2⟩ := h
  rw [Option.bind_eq_some_iff] at h2
  obtain ⟨⟨n, r2⟩, h3, h4⟩ := h2
  rw [Option.map_eq_some_iff] at h4
  obtain ⟨⟨xs, r3⟩, h5, h6⟩ := h4
  obtain ⟨_, rfl⟩ := Prod.mk.inj h6
  have := textL_short _ _ _ h1
  have := textL_short _ _ _ h3
  have := listL_short mendL_short _ _ _ h5
  simp only [] at *
  omega
/-- The reader behind a store into a block above it. -/
theorem rd_set {w : World} {p : Nat} {bs : List UInt8} {bad : Bool} (h : Rd w p bs bad) (a : Addr) (u : Value) (ha : p < a.block) : Rd (w.setCell a u) p bs bad := rd_far h (grown_setCell w a u) ha
theorem rd_alloc {w : World} {p : Nat} {bs : List UInt8} {bad : Bool} (h : Rd w p bs bad) (o : Obj) : Rd (w.alloc o) p bs bad := h.other ((Below.refl _ _).alloc (Nat.le_refl _) o)
theorem gr_alloc {w w' : World} {p : Nat} (h : w.grownBy w' (some p)) (o : Obj) : w.grownBy (w'.alloc o) (some p) := grown_trans h (grown_of_below ((Below.refl _ _).alloc (Nat.le_refl _) o) _)
theorem gr_set {w w' : World} {p : Nat} (h : w.grownBy w' (some p)) (a : Addr) (u : Value) (ha : w.heap.size ≤ a.block) : w.grownBy (w'.setCell a u) (some p) := grown_row h (grown_setCell w' a u) (fun j e => by injection e with e; omega)
theorem gr_blk {w w' : World} {p b : Nat} {X : Obj} (h : w.grownBy w' (some p)) (hb : w.heap[b]? = some X) (hne : b ≠ p) : w'.heap[b]? = some X := (h.block b (Array.getElem?_eq_some_iff.1 hb).1 (by intro e; injection e with e; exact hne e)).trans hb

set_option maxRecDepth 100000 in
set_option maxHeartbeats 4000000 in
theorem global_any (p : Nat) (bs : List UInt8) (bad : Bool) (w : World) (h : Rd w p bs bad) (hlen : bad = false → bs.length ≤ 100000) (R : Ending → World → Prop)
    (hR : ∀ (x : Global) r (q : Bool), (q = false → bad = false ∧ globalL bs = some (x, r)) → (q = true → bad = true ∨ globalL bs = none) → ∀ w' v, w.grownBy w' (some p) → Rd w' p r q → rpInt.SLF w' w.heap.size w'.heap.size x.init v → R (.returned (.agg #[.string x.name, .int .i64 x.size, v])) w') :
    Calls Tryd.prog 121 #[.pointer (some ⟨p, 0, none⟩)] w R := by
  have HR := Lib.hid hR
  have hpl := h.lt
  obtain ⟨W0, hW0⟩ : ∃ W0, W0 = (w.alloc (Obj.cells #[.pointer (some ⟨p, 0, none⟩)] 171)).alloc (Obj.cells #[.string ⟨#[]⟩, .int .i64 0, .slice none 0 0] 111) := ⟨_, rfl⟩
  have hz0 : W0.heap.size = w.heap.size + 2 := by subst hW0; simp
  have hM : W0.heap[w.heap.size]? = some (.cells #[.pointer (some ⟨p, 0, none⟩)] 171 (0, 0)) := by
    subst hW0
    exact blk_alloc (heap_alloc_new _ _) _
  have hV : W0.heap[w.heap.size + 1]? = some (.cells #[.string ⟨#[]⟩, .int .i64 0, .slice none 0 0] 111 (0, 0)) := by
    subst hW0
    have := heap_alloc_new (w.alloc (Obj.cells #[.pointer (some ⟨p, 0, none⟩)] 171)) (Obj.cells #[.string ⟨#[]⟩, .int .i64 0, .slice none 0 0] 111)
    simpa using this
  have hr0 : Rd W0 p bs bad := by subst hW0; exact rd_alloc (rd_alloc h _) _
  have hg0 : w.grownBy W0 (some p) := by subst hW0; exact gr_alloc (gr_alloc (grown_refl _ _) _) _
  have HM := Lib.hid hM
  have HV := Lib.hid hV
  have HW := Lib.hid hW0.symm
  have Hr0 := Lib.hid hr0
  have Hg0 := Lib.hid hg0
  obtain ⟨m0, _⟩ := one_blk hM
  clear hR h hM hV hr0 hg0 hW0
  go_enter Tryd.func121, Tryd.ntmps121
  go_wp2_with fail
  rw [HW.out]
  refine text_any p bs bad _ Hr0.out _ (fun s r1 q1 hs a0 a1 w1 hg1 hr1 => ?_)
  have hz1 := hg1.size
  rw [hz0] at hz1
  have hM1 := gr_blk hg1 HM.out (by omega)
  have hV1 := gr_blk hg1 HV.out (by omega)
  have hg1' := grown_trans Hg0.out hg1
  obtain ⟨W1, hW1⟩ : ∃ W1, W1 = w1.alloc (Obj.cells #[.string s, .int .i64 0, .slice none 0 0] 111) := ⟨_, rfl⟩
  have hM2 : W1.heap[w.heap.size]? = some (.cells #[.pointer (some ⟨p, 0, none⟩)] 171 (0, 0)) := by subst hW1; exact blk_alloc hM1 _
  have hV2 : W1.heap[w.heap.size + 1]? = some (.cells #[.string ⟨#[]⟩, .int .i64 0, .slice none 0 0] 111 (0, 0)) := by subst hW1; exact blk_alloc hV1 _
  have hG2 : W1.heap[w1.heap.size]? = some (.cells #[.string s, .int .i64 0, .slice none 0 0] 111 (0, 0)) := by subst hW1; exact heap_alloc_new _ _
  have hzW1 : W1.heap.size = w1.heap.size + 1 := by subst hW1; simp
  have hgW1 : w.grownBy W1 (some p) := by subst hW1; exact gr_alloc hg1' _
  have hrW1 : Rd W1 p r1 q1 := by subst hW1; exact rd_alloc hr1 _
  obtain ⟨m1, _⟩ := one_blk hM1
  have HM2 := Lib.hid hM2
  have HV2 := Lib.hid hV2
  have HG2 := Lib.hid hG2
  have Hg2 := Lib.hid hgW1
  have Hr2 := Lib.hid hrW1
  have HW1 := Lib.hid hW1.symm
  have A0 := Lib.hid a0
  have A1 := Lib.hid a1
  obtain ⟨m2, _⟩ := one_blk hM2
  have hmz : w.heap.size < w1.heap.size := by omega
  clear hM2 hV2 hG2 hgW1 hrW1 hW1 hg1 hr1 hM1 hV1 hg1' a0 a1 m0 HW
  go_wp2_with fail
  rw [HW1.out]
  refine small_any p r1 q1 _ Hr2.out _ (fun n r2 q2 b0 b1 w2 hg3 hr3 => ?_)
  have hz2 := hg3.size
  rw [hzW1] at hz2
  have hM3 := gr_blk hg3 HM2.out (by omega)
  have hV3 := gr_blk hg3 HV2.out (by omega)
  have hG3 := gr_blk hg3 HG2.out (by omega)
  obtain ⟨g0, g1, g2, y0, y1, y2⟩ := three_cells hG3
  obtain ⟨W2, hW2⟩ : ∃ W2, W2 = w2.setCell ⟨w1.heap.size, 1, none⟩ (.int .i64 n) := ⟨_, rfl⟩
  have hM4 : W2.heap[w.heap.size]? = some (.cells #[.pointer (some ⟨p, 0, none⟩)] 171 (0, 0)) := by subst hW2; exact blk_other hM3 (by omega) _
  have hV4 : W2.heap[w.heap.size + 1]? = some (.cells #[.string ⟨#[]⟩, .int .i64 0, .slice none 0 0] 111 (0, 0)) := by subst hW2; exact blk_other hV3 (by omega) _
  have hG4 : W2.heap[w1.heap.size]? = some (.cells #[.string s, .int .i64 n, .slice none 0 0] 111 (0, 0)) := by subst hW2; exact (three_set hG3).2.1 _
  have hzW2 : W2.heap.size = w2.heap.size := by subst hW2; simp [World.setCell]
  have hgW2 : w.grownBy W2 (some p) := by subst hW2; exact gr_set (grown_trans Hg2.out hg3) _ _ (by simp; omega)
  have hrW2 : Rd W2 p r2 q2 := by subst hW2; exact rd_set hr3 _ _ (by simp; omega)
  have HM4 := Lib.hid hM4
  have HV4 := Lib.hid hV4
  have HG4 := Lib.hid hG4
  have Hg4 := Lib.hid hgW2
  have Hr4 := Lib.hid hrW2
  have HW2 := Lib.hid hW2.symm
  have B0 : Hid (q2 = false → q1 = false ∧ (smallL r1).map (fun x => ((x.1 : Int), x.2)) = some (n, r2)) := Lib.hid fun hq => by
    obtain ⟨h1, m, rfl, h2⟩ := b0 hq
    exact ⟨h1, by rw [h2]; rfl⟩
  have B1 : Hid (q2 = true → q1 = true ∨ (smallL r1).map (fun x => ((x.1 : Int), x.2)) = none) := Lib.hid fun hq => by
    rcases b1 hq with h1 | h1
    · exact .inl h1
    · right
      rw [h1]
      rfl
  have hlen2 : q2 = false → r2.length ≤ 100000 := fun hq => by
    obtain ⟨h1, m, _, h2⟩ := b0 hq
    obtain ⟨h3, h4⟩ := A0.out h1
    have := small_short _ _ _ h2
    have := textL_short _ _ _ h4
    have := hlen h3
    omega
  have Hlen2 := Lib.hid hlen2
  obtain ⟨m4, _⟩ := one_blk hM4
  obtain ⟨m3, _⟩ := one_blk hM3
  have Hm4 := Lib.hid m4
  clear hM4 hV4 hG4 hgW2 hrW2 hW2 hg3 hr3 hM3 hV3 hG3 b0 b1 m1 m2 HW1 hlen2 m4
  go_wp2_with fail
  rw [HW2.out]
  refine listInt_calls p r2 q2 _ Hr4.out Hlen2.out w.heap.size Hm4.out (by omega) _ (fun xs r3 q3 c0 c1 w3 v hg5 hr5 hv => ?_)
  obtain ⟨A9, n9, rfl, _, _, hv⟩ := hv.cases_
  have hz3 := hg5.size
  rw [hzW2] at hz3 hv
  have hV5 := gr_blk hg5 HV4.out (by omega)
  have hG5 := gr_blk hg5 HG4.out (by omega)
  obtain ⟨e0, e1, e2, x0, x1, x2⟩ := three_cells hG5
  obtain ⟨f0, f1, f2, t0, t1, t2⟩ := three_cells hV5
  obtain ⟨l0, l1⟩ := three_read (A := textL) (B := fun bs => (smallL bs).map (fun x => ((x.1 : Int), x.2))) (C := listL intL) (D := globalL) (f := fun a b c => (⟨a, b, c⟩ : Global)) (fun bs => by
    unfold globalL
    cases textL bs with
    | none => rfl
    | some a =>
      simp only [Option.bind_some]
      cases smallL a.2 <;> rfl) A0.out A1.out B0.out B1.out c0 c1
  have HV5 := Lib.hid hV5
  have Hr5 := Lib.hid hr5
  have Hg5 := Lib.hid (grown_trans Hg4.out hg5)
  have Hv := Lib.hid hv
  have Hfin := Lib.hid (fun w' v hg hr => HR.out ⟨s, n, xs⟩ r3 q3 l0 l1 w' v hg hr)
  have hq1 : w1.heap.size < w3.heap.size := by omega
  have hq2 : w.heap.size + 1 < w3.heap.size := by omega
  clear hg5 hr5 hv hV5 hG5 c0 c1 l0 l1 m3 HW2 g0 g1 g2 y0 y1 y2
  go_wp2
  refine bodyPost_ret (v := .agg #[.string s, .int .i64 n, .slice A9 xs.length n9]) (res_Global (T := 111) (by rfl) (by rfl) ?_) rfl ?_
  · exact (three_set ((three_set ((three_set (blk_other (c := w1.heap.size) (j := 2) HV5.out (by omega) _)).1 _)).2.1 _)).2.2 _
  · have hG := gr_set (gr_set (gr_set (gr_set Hg5.out ⟨w1.heap.size, 2, none⟩ (.slice A9 xs.length n9) (by simp; omega)) ⟨w.heap.size + 1, 0, none⟩ (.string s) (by simp)) ⟨w.heap.size + 1, 1, none⟩ (.int .i64 n) (by simp)) ⟨w.heap.size + 1, 2, none⟩ (.slice A9 xs.length n9) (by simp)
    have hRd := rd_set (rd_set (rd_set (rd_set Hr5.out ⟨w1.heap.size, 2, none⟩ (.slice A9 xs.length n9) (by simp; omega)) ⟨w.heap.size + 1, 0, none⟩ (.string s) (by simp; omega)) ⟨w.heap.size + 1, 1, none⟩ (.int .i64 n) (by simp; omega)) ⟨w.heap.size + 1, 2, none⟩ (.slice A9 xs.length n9) (by simp; omega)
    have hS := ((((Hv.out.setCell ⟨w1.heap.size, 2, none⟩ (by simp; omega) (.slice A9 xs.length n9)).setCell ⟨w.heap.size + 1, 0, none⟩ (by simp; omega) (.string s)).setCell ⟨w.heap.size + 1, 1, none⟩ (by simp; omega) (.int .i64 n)).setCell ⟨w.heap.size + 1, 2, none⟩ (by simp; omega) (.slice A9 xs.length n9)).more (b' := w.heap.size) (by omega) (Nat.le_refl _)
    exact Hfin.out _ _ hG hRd (hS.more (Nat.le_refl _) (by simp [World.setCell]))

theorem conv_text (w : World) (s : ByteArray) (hs : s.size ≤ maxLen) : ∃ W cap, (convert 9 39 (.string s)).run Tryd.prog w = .ok (.slice (some ⟨w.heap.size, 0, none⟩) s.size cap) W ∧ Below w.heap.size w W ∧ W.heap.size = w.heap.size + 1 ∧
    rpByte.SLF W w.heap.size W.heap.size s.data.toList (.slice (some ⟨w.heap.size, 0, none⟩) s.size cap) := by
  have hl : s.data.toList.length = s.size := by rw [Array.length_toList]; rfl
  refine ⟨_, _, Lib.run_convert_string_bytes w 9 39 5 s Tryd.underlying9 Tryd.underlying39 Tryd.underlying5, ⟨rfl, rfl, rfl, by rw [Lib.bytesWorld_size]; omega, fun k hk => Lib.bytesWorld_at_old w _ s k hk⟩, Lib.bytesWorld_size _ _ _, ?_⟩
  refine ⟨_, _, by rw [hl], by rw [hl]; exact hs, by rw [hl]; exact grownCap_ge _ _ _ _, fun hp => ⟨w.heap.size, 0, rfl, by rw [Lib.bytesWorld_size]; omega, fun k x hk => ⟨[.int .u8 x.toNat], rfl, fun j u hj => ?_⟩⟩⟩
  have hj1 : j = 0 := by
    have := (List.getElem?_eq_some_iff.1 hj).1
    simp at this
    exact this
  subst hj1
  simp at hj
  subst hj
  have hkl : k < s.size := by rw [← hl]; exact (List.getElem?_eq_some_iff.1 hk).1
  rw [only_cell_of _ _ _ (by simp)]
  have := Lib.bytesWorld_cell w 5 s k hkl
  rw [List.getD_eq_getElem?_getD, hk] at this
  simpa [rpByte] using this

set_option maxRecDepth 100000 in
set_option maxHeartbeats 4000000 in
theorem section_any (p : Nat) (bs : List UInt8) (bad : Bool) (w : World) (h : Rd w p bs bad) (hlen : bad = false → bs.length ≤ 100000) (R : Ending → World → Prop)
    (hR : ∀ (x : Section) r (q : Bool), (q = false → bad = false ∧ sectionL bs = some (x, r)) → (q = true → bad = true ∨ sectionL bs = none) → ∀ w' v1 v2, w.grownBy w' (some p) → Rd w' p r q → rpByte.SLF w' w.heap.size w'.heap.size x.code v1 → rpMend.SLF w' w.heap.size w'.heap.size x.mends v2 → R (.returned (.agg #[.string x.name, v1, v2])) w') :
    Calls Tryd.prog 123 #[.pointer (some ⟨p, 0, none⟩)] w R := by
  have HR := Lib.hid hR
  have hpl := h.lt
  obtain ⟨W0, hW0⟩ : ∃ W0, W0 = (w.alloc (Obj.cells #[.pointer (some ⟨p, 0, none⟩)] 171)).alloc (Obj.cells #[.string ⟨#[]⟩, .slice none 0 0, .slice none 0 0] 64) := ⟨_, rfl⟩
  have hz0 : W0.heap.size = w.heap.size + 2 := by subst hW0; simp
  have hM : W0.heap[w.heap.size]? = some (.cells #[.pointer (some ⟨p, 0, none⟩)] 171 (0, 0)) := by
    subst hW0
    exact blk_alloc (heap_alloc_new _ _) _
  have hV : W0.heap[w.heap.size + 1]? = some (.cells #[.string ⟨#[]⟩, .slice none 0 0, .slice none 0 0] 64 (0, 0)) := by
    subst hW0
    have := heap_alloc_new (w.alloc (Obj.cells #[.pointer (some ⟨p, 0, none⟩)] 171)) (Obj.cells #[.string ⟨#[]⟩, .slice none 0 0, .slice none 0 0] 64)
    simpa using this
  have hr0 : Rd W0 p bs bad := by subst hW0; exact rd_alloc (rd_alloc h _) _
  have hg0 : w.grownBy W0 (some p) := by subst hW0; exact gr_alloc (gr_alloc (grown_refl _ _) _) _
  have HM := Lib.hid hM
  have HV := Lib.hid hV
  have HW := Lib.hid hW0.symm
  have Hr0 := Lib.hid hr0
  have Hg0 := Lib.hid hg0
  obtain ⟨m0, _⟩ := one_blk hM
  clear hR h hM hV hr0 hg0 hW0
  go_enter Tryd.func123, Tryd.ntmps123
  go_wp2_with fail
  rw [HW.out]
  refine text_any p bs bad _ Hr0.out _ (fun s r1 q1 hs a0 a1 w1 hg1 hr1 => ?_)
  have hz1 := hg1.size
  rw [hz0] at hz1
  have hM1 := gr_blk hg1 HM.out (by omega)
  have hV1 := gr_blk hg1 HV.out (by omega)
  have hg1' := grown_trans Hg0.out hg1
  obtain ⟨W1, hW1⟩ : ∃ W1, W1 = w1.alloc (Obj.cells #[.string s, .slice none 0 0, .slice none 0 0] 64) := ⟨_, rfl⟩
  have hM2 : W1.heap[w.heap.size]? = some (.cells #[.pointer (some ⟨p, 0, none⟩)] 171 (0, 0)) := by subst hW1; exact blk_alloc hM1 _
  have hV2 : W1.heap[w.heap.size + 1]? = some (.cells #[.string ⟨#[]⟩, .slice none 0 0, .slice none 0 0] 64 (0, 0)) := by subst hW1; exact blk_alloc hV1 _
  have hG2 : W1.heap[w1.heap.size]? = some (.cells #[.string s, .slice none 0 0, .slice none 0 0] 64 (0, 0)) := by subst hW1; exact heap_alloc_new _ _
  have hzW1 : W1.heap.size = w1.heap.size + 1 := by subst hW1; simp
  have hgW1 : w.grownBy W1 (some p) := by subst hW1; exact gr_alloc hg1' _
  have hrW1 : Rd W1 p r1 q1 := by subst hW1; exact rd_alloc hr1 _
  obtain ⟨m1, _⟩ := one_blk hM1
  have HM2 := Lib.hid hM2
  have HV2 := Lib.hid hV2
  have HG2 := Lib.hid hG2
  have Hg2 := Lib.hid hgW1
  have Hr2 := Lib.hid hrW1
  have HW1 := Lib.hid hW1.symm
  have A0 := Lib.hid a0
  have A1 := Lib.hid a1
  obtain ⟨m2, _⟩ := one_blk hM2
  have hmz : w.heap.size < w1.heap.size := by omega
  clear hM2 hV2 hG2 hgW1 hrW1 hW1 hg1 hr1 hM1 hV1 hg1' a0 a1 m0 HW
  go_wp2_with fail
  rw [HW1.out]
  refine text_any p r1 q1 _ Hr2.out _ (fun n r2 q2 hn b0 b1 w2 hg3 hr3 => ?_)
  have hz2 := hg3.size
  rw [hzW1] at hz2
  have hM3 := gr_blk hg3 HM2.out (by omega)
  have hV3 := gr_blk hg3 HV2.out (by omega)
  have hG3 := gr_blk hg3 HG2.out (by omega)
  obtain ⟨W3, cap, hcv, hbc, hzc, hcode⟩ := conv_text w2 n hn
  have hM3' := (hbc.block _ (blk_lt hM3)).trans hM3
  have hV3' := (hbc.block _ (blk_lt hV3)).trans hV3
  have hG3' := (hbc.block _ (blk_lt hG3)).trans hG3
  have hr3' := hr3.other hbc
  have hg3' := grown_trans hg3 (grown_of_below hbc (some p))
  obtain ⟨g0, g1, g2, y0, y1, y2⟩ := three_cells hG3'
  have hG3l : w1.heap.size < W3.heap.size := by omega
  obtain ⟨W2, hW2⟩ : ∃ W2, W2 = W3.setCell ⟨w1.heap.size, 1, none⟩ (.slice (some ⟨w2.heap.size, 0, none⟩) n.size cap) := ⟨_, rfl⟩
  have hM4 : W2.heap[w.heap.size]? = some (.cells #[.pointer (some ⟨p, 0, none⟩)] 171 (0, 0)) := by subst hW2; exact blk_other hM3' (by omega) _
  have hV4 : W2.heap[w.heap.size + 1]? = some (.cells #[.string ⟨#[]⟩, .slice none 0 0, .slice none 0 0] 64 (0, 0)) := by subst hW2; exact blk_other hV3' (by omega) _
  have hG4 : W2.heap[w1.heap.size]? = some (.cells #[.string s, .slice (some ⟨w2.heap.size, 0, none⟩) n.size cap, .slice none 0 0] 64 (0, 0)) := by subst hW2; exact (three_set hG3').2.1 _
  have hzW2 : W2.heap.size = w2.heap.size + 1 := by subst hW2; simp [World.setCell, hzc]
  have hgW2 : w.grownBy W2 (some p) := by subst hW2; exact gr_set (grown_trans Hg2.out hg3') _ _ (by simp; omega)
  have hrW2 : Rd W2 p r2 q2 := by subst hW2; exact rd_set hr3' _ _ (by simp; omega)
  have hcode2 : rpByte.SLF W2 w2.heap.size W2.heap.size n.data.toList (.slice (some ⟨w2.heap.size, 0, none⟩) n.size cap) := by subst hW2; exact (hcode.setCell _ (by simp; omega) _).more (Nat.le_refl _) (by simp [World.setCell])
  have HM4 := Lib.hid hM4
  have HV4 := Lib.hid hV4
  have HG4 := Lib.hid hG4
  have Hg4 := Lib.hid hgW2
  have Hr4 := Lib.hid hrW2
  have HW2 := Lib.hid hW2.symm
  have Hcode := Lib.hid hcode2
  have B0 : Hid (q2 = false → q1 = false ∧ textL r1 = some (n, r2)) := Lib.hid b0
  have B1 : Hid (q2 = true → q1 = true ∨ textL r1 = none) := Lib.hid b1
  have hlen2 : q2 = false → r2.length ≤ 100000 := fun hq => by
    obtain ⟨h1, h2⟩ := b0 hq
    obtain ⟨h3, h4⟩ := A0.out h1
    have := textL_short _ _ _ h2
    have := textL_short _ _ _ h4
    have := hlen h3
    omega
  have Hlen2 := Lib.hid hlen2
  obtain ⟨m4, _⟩ := one_blk hM4
  obtain ⟨m3, _⟩ := one_blk hM3'
  have Hm4 := Lib.hid m4
  clear hM4 hV4 hG4 hgW2 hrW2 hW2 hg3 hr3 hM3 hV3 hG3 hM3' hV3' hG3' hr3' hg3' hbc hcode hcode2 b0 b1 m1 m2 HW1 hlen2 m4
  go_wp2_with fail
  rw [HW2.out]
  refine listMend_calls p r2 q2 _ Hr4.out Hlen2.out w.heap.size Hm4.out (by omega) _ (fun xs r3 q3 c0 c1 w3 v hg5 hr5 hv => ?_)
  obtain ⟨A9, n9, rfl, _, _, hv⟩ := hv.cases_
  have hz3 := hg5.size
  rw [hzW2] at hz3 hv
  have hV5 := gr_blk hg5 HV4.out (by omega)
  have hG5 := gr_blk hg5 HG4.out (by omega)
  obtain ⟨e0, e1, e2, x0, x1, x2⟩ := three_cells hG5
  obtain ⟨f0, f1, f2, t0, t1, t2⟩ := three_cells hV5
  obtain ⟨l0, l1⟩ := three_read (A := textL) (B := textL) (C := listL mendL) (D := sectionL) (f := fun a b c => (⟨a, b.data.toList, c⟩ : Section)) (fun bs => rfl) A0.out A1.out B0.out B1.out c0 c1
  have hcd := (Hcode.out.keep (w' := w3) (fun k h1 h2 => hg5.block k (by omega) (by intro e; injection e with e; omega)))
  have Hcd := Lib.hid hcd
  have HV5 := Lib.hid hV5
  have Hr5 := Lib.hid hr5
  have Hg5 := Lib.hid (grown_trans Hg4.out hg5)
  have Hv := Lib.hid hv
  have Hfin := Lib.hid (fun w' v1 v2 hg hr => HR.out ⟨s, n.data.toList, xs⟩ r3 q3 l0 l1 w' v1 v2 hg hr)
  have hq1 : w1.heap.size < w3.heap.size := by omega
  have hq2 : w.heap.size + 1 < w3.heap.size := by omega
  clear hg5 hr5 hv hV5 hG5 c0 c1 l0 l1 hcd hcv m3 HW2 g0 g1 g2 y0 y1 y2
  go_wp2
  refine bodyPost_ret (v := .agg #[.string s, .slice (some ⟨w2.heap.size, 0, none⟩) n.size cap, .slice A9 xs.length n9]) (res_Section (T := 64) (by rfl) (by rfl) ?_) rfl ?_
  · exact (three_set ((three_set ((three_set (blk_other (c := w1.heap.size) (j := 2) HV5.out (by omega) _)).1 _)).2.1 _)).2.2 _
  · have hG := gr_set (gr_set (gr_set (gr_set Hg5.out ⟨w1.heap.size, 2, none⟩ (.slice A9 xs.length n9) (by simp; omega)) ⟨w.heap.size + 1, 0, none⟩ (.string s) (by simp)) ⟨w.heap.size + 1, 1, none⟩ (.slice (some ⟨w2.heap.size, 0, none⟩) n.size cap) (by simp)) ⟨w.heap.size + 1, 2, none⟩ (.slice A9 xs.length n9) (by simp)
    have hRd := rd_set (rd_set (rd_set (rd_set Hr5.out ⟨w1.heap.size, 2, none⟩ (.slice A9 xs.length n9) (by simp; omega)) ⟨w.heap.size + 1, 0, none⟩ (.string s) (by simp; omega)) ⟨w.heap.size + 1, 1, none⟩ (.slice (some ⟨w2.heap.size, 0, none⟩) n.size cap) (by simp; omega)) ⟨w.heap.size + 1, 2, none⟩ (.slice A9 xs.length n9) (by simp; omega)
    have hS := ((((Hv.out.setCell ⟨w1.heap.size, 2, none⟩ (by simp; omega) (.slice A9 xs.length n9)).setCell ⟨w.heap.size + 1, 0, none⟩ (by simp; omega) (.string s)).setCell ⟨w.heap.size + 1, 1, none⟩ (by simp; omega) (.slice (some ⟨w2.heap.size, 0, none⟩) n.size cap)).setCell ⟨w.heap.size + 1, 2, none⟩ (by simp; omega) (.slice A9 xs.length n9)).more (b' := w.heap.size) (by omega) (Nat.le_refl _)
    have hC := ((((Hcd.out.setCell ⟨w1.heap.size, 2, none⟩ (by simp; omega) (.slice A9 xs.length n9)).setCell ⟨w.heap.size + 1, 0, none⟩ (by simp; omega) (.string s)).setCell ⟨w.heap.size + 1, 1, none⟩ (by simp; omega) (.slice (some ⟨w2.heap.size, 0, none⟩) n.size cap)).setCell ⟨w.heap.size + 1, 2, none⟩ (by simp; omega) (.slice A9 xs.length n9)).more (b' := w.heap.size) (by omega) (Nat.le_refl _)
    exact Hfin.out _ _ _ hG hRd (hC.more (Nat.le_refl _) (by simp [World.setCell]; omega)) (hS.more (Nat.le_refl _) (by simp [World.setCell]))

set_option maxRecDepth 100000 in
set_option maxHeartbeats 4000000 in
theorem listGlobal_calls (p : Nat) (bs : List UInt8) (bad : Bool) (w : World) (h : Rd w p bs bad) (hlen : bad = false → bs.length ≤ 100000)  (R : Ending → World → Prop)
    (hR : ∀ (xs : List Global) (r : List UInt8) (q : Bool), (q = false → bad = false ∧ listL globalL bs = some (xs, r)) → (q = true → bad = true ∨ listL globalL bs = none) → ∀ w' v, w.grownBy w' (some p) → Rd w' p r q → rpGlobal.SLF w' w.heap.size w'.heap.size xs v → R (.returned v) w') :
    Calls Tryd.prog 120 #[.pointer (some ⟨p, 0, none⟩), .func (.func 121) #[.pointer (some ⟨p, 0, none⟩)] #[]] w R := by
  obtain ⟨iB, hi, zb0, zb1, zb2⟩ := info_parts info_Global
  have hpl := h.lt
  have HR := Lib.hid hR
  have Hrd := Lib.hid h
  clear hR h
  go_enter Tryd.func120, Tryd.ntmps120
  go_wp2_with fail
  refine many_any p bs bad _ Hrd.out _ (fun n0 r0 q0 hle hq0 hq1 w0 hg0 hr0 => ?_)
  have L0 : Hid (q0 = false → bad = false ∧ (timesL globalL n0 r0).map (fun y => (([] : List Global) ++ y.1, y.2)) = listL globalL bs ∧ n0 + 0 ≤ 100000 ∧ r0.length ≤ 100000) := Lib.hid fun hq => by
    obtain ⟨h1, h2⟩ := hq0 hq
    have h3 := manyL_short _ _ _ h2
    have h4 := hlen h1
    refine ⟨h1, ?_, by omega, by omega⟩
    unfold listL
    rw [h2]
    show _ = timesL globalL n0 r0
    cases timesL globalL n0 r0 <;> rfl
  have L1 : Hid (q0 = true → bad = true ∨ listL globalL bs = none) := Lib.hid fun hq => by
    rcases hq1 hq with h1 | h1
    · exact .inl h1
    · right
      unfold listL
      rw [h1]
      rfl
  have Hg0 := Lib.hid hg0
  have Hr0 := Lib.hid hr0
  clear hq0 hq1 hg0 hr0 hle
  go_wp2
  go_loopg [5, 6] n0 (fun gh out s6 wr => ∃ (n : Nat) (xs : List Global) (css : List (List Value)) (r : List UInt8) (q : Bool), gh = n ∧ s6 = .int .i64 (n : Int) ∧ Built rpGlobal w.heap.size 111 (fun b => b < w.heap.size) wr out xs css ∧ Rd wr p r q ∧ w.grownBy wr (some p) ∧
    (q = false → bad = false ∧ (timesL globalL n r).map (fun y => (xs ++ y.1, y.2)) = listL globalL bs ∧ n + xs.length ≤ 100000 ∧ r.length ≤ 100000) ∧ (q = true → bad = true ∨ listL globalL bs = none))
  case atStart => exact ⟨n0, [], [], r0, q0, rfl, rfl, Built.nil _ _ _ _ _ (fun _ h => h), Hr0.out, Hg0.out, L0.out, L1.out⟩
  case round =>
    obtain ⟨n, xs, css, r, q, hgh, rfl, hB, hrd, hgr, l0, l1⟩ := hrel
    have hpw := hrd.lt
    have hsz := hgr.size
    obtain ⟨vr, Tr, hblk, hsv⟩ := id hrd
    obtain ⟨A9, n9, rfl, _, _, _⟩ := hsv.cases_
    obtain ⟨c0, c1, z0, z1⟩ := cells_of_block hblk
    have HB := Lib.hid hB
    have HRd := Lib.hid hrd
    have Hgr := Lib.hid hgr
    have M0 := Lib.hid l0
    have M1 := Lib.hid l1
    have Hgh := Lib.hid hgh
    clear hB hrd hgr l0 l1 hblk hgh hsv
    have hexit : Hid ((q = true ∨ n = 0) → R (.returned u5) wr) := Lib.hid fun hx => by
      refine HR.out xs r q (fun hq => ?_) M1.out wr u5 Hgr.out HRd.out (HB.out.SLF (fun k hk => hk) (Nat.le_refl _) (Nat.le_refl _))
      obtain ⟨h1, h2, _, _⟩ := M0.out hq
      refine ⟨h1, ?_⟩
      rcases hx with hx | hx
      · rw [hq] at hx
        cases hx
      · subst hx
        rw [← h2]
        simp [timesL]
    cases q
    rotate_left
    · have hf := Lib.hid (hexit.out (.inl rfl))
      clear hexit
      by_cases hn : 0 < n
      · have i0 : (0 : Int) < (n : Int) := by omega
        go_wp2
        exact hf.out
      · have i0 : ¬ (0 : Int) < (n : Int) := by omega
        go_wp2
        exact hf.out
    · by_cases hn : n = 0
      · have hf := Lib.hid (hexit.out (.inr hn))
        have i0 : ¬ (0 : Int) < (n : Int) := by omega
        clear hexit
        go_wp2
        all_goals first | exact hf.out | (exfalso; omega)
      · have i0 : (0 : Int) < (n : Int) := by omega
        obtain ⟨m, rfl⟩ : ∃ m, n = m + 1 := ⟨n - 1, by omega⟩
        obtain ⟨hb, ht, hnl, hrl⟩ := M0.out rfl
        have Ht := Lib.hid ht
        have Hbb := Lib.hid hb
        obtain ⟨A5, n5, hu5⟩ : ∃ A c, u5 = .slice A xs.length c := own_slice HB.out.own
        subst hu5
        clear hexit hn ht hb
        go_wp2_with fail
        refine global_any p r false _ HRd.out (fun _ => hrl) _ (fun x r2 q2 h0 h1 w1 v hg1 hr1 hv => ?_)
        obtain ⟨A8, n8, rfl, _, _, hv⟩ := hv.cases_
        have hsz1 := hg1.size
        have hkp : ∀ k, k < wr.heap.size → ¬ k < w.heap.size → w1.heap[k]? = wr.heap[k]? := fun k hk hn => hg1.block k hk (by intro e; injection e with e; omega)
        have hB1 := (HB.out.keep hsz1 hkp).alloc (Obj.cells #[.string x.name, .int .i64 x.size, .slice A8 x.init.length n8] 111)
        have hA : Apart rpGlobal (fun b => b < w.heap.size) (w1.alloc (Obj.cells #[.string x.name, .int .i64 x.size, .slice A8 x.init.length n8] 111)) (.slice A5 xs.length n5) x [.string x.name, .int .i64 x.size, .slice A8 x.init.length n8] := by
          refine Apart.of_only (base := wr.heap.size) (rpGlobal_mk ((hv.below ((Below.refl _ _).alloc (Nat.le_refl _) _) (Nat.le_refl _)).more (Nat.le_refl _) (by simp))) (fun k hk => by omega) (fun g hg => (HB.out.own.lt g hg).2)
        have Hr1 := Lib.hid hr1
        have HB1 := Lib.hid hB1
        have HA := Lib.hid hA
        have hgw := Lib.hid (grown_trans Hgr.out hg1)
        have hW : Hid ((w1.alloc (Obj.cells #[.string x.name, .int .i64 x.size, .slice A8 x.init.length n8] 111)).ownsRow w.heap.size 111 3 (.slice A5 xs.length n5) xs.length css.flatten) := Lib.hid hB1.own
        have hN0 : Hid (q2 = false → bad = false ∧ (timesL globalL m r2).map (fun y => ((xs ++ [x]) ++ y.1, y.2)) = listL globalL bs ∧ m + (xs ++ [x]).length ≤ 100000 ∧ r2.length ≤ 100000) := Lib.hid fun hq => by
          have h2 := (h0 hq).2
          have h3 := globalL_short _ _ _ h2
          refine ⟨Hbb.out, ?_, by rw [List.length_append]; simp; omega, by omega⟩
          rw [← timesL_step h2]
          exact Ht.out
        have hN1 : Hid (q2 = true → bad = true ∨ listL globalL bs = none) := Lib.hid fun hq => by
          rcases h1 hq with h2 | h2
          · cases h2
          · right
            have := Ht.out
            rw [timesL_none h2] at this
            exact this.symm
        clear hg1 hr1 hB1 hA hkp h0 h1
        go_wp2_with (at_builtin; refine wpList_append_lies _ rfl _ _ 32 rfl w.heap.size 111 iB _ 3 48 Tryd.underlying32 hi zb0 zb1 zb2 rfl (by decide) (.slice A5 xs.length n5) xs.length css.flatten rfl hW.out ⟨w1.heap.size, 0, none⟩ 1 1 [.string x.name, .int .i64 x.size, .slice A8 x.init.length n8] rfl rfl ?_ ?_ (by decide) ?_ ?_ ?_ _ rfl ?_)
        any_goals (first | exact World.news_of_block (cs := #[.string x.name, .int .i64 x.size, .slice A8 x.init.length n8]) (t := 111) (fr := (0, 0)) (heap_alloc_new _ _) | (simp [Value.oneCell']; done) | (unfold maxLen; omega) | omega | (simp; done) | (simp; omega))
        intro gb cap w3 hown3 hgrow3 hat3 hlt3
        have hB3 := HB1.out.push hown3 rfl hgrow3 (by simpa using hat3) HA.out
        have hown : ∀ j, Value.ownBlock (.slice A5 xs.length n5) = some j → w.heap.size ≤ j := fun j hj => (HB.out.own.lt j hj).1
        have hgr3 := grown_row (grown_trans hgw.out (grown_of_below ((Below.refl _ _).alloc (Nat.le_refl _) (Obj.cells #[.string x.name, .int .i64 x.size, .slice A8 x.init.length n8] 111)) (some p))) hgrow3 hown
        have hr3 := Hr1.out.other ((Below.refl _ _).alloc (Nat.le_refl _) (Obj.cells #[.string x.name, .int .i64 x.size, .slice A8 x.init.length n8] 111))
        have hr4 : Rd w3 p r2 q2 := by
          have hl := hr3.lt
          obtain ⟨v8, T8, h8, h9⟩ := hr3
          refine ⟨v8, T8, (hgrow3.block p hl (fun e => by have := hown p e.symm; omega)).trans h8, h9.keep fun a ha => World.cell?_of_block (hgrow3.block _ (by omega) (fun e => by have := hown _ e.symm; omega))⟩
        have HB3 := Lib.hid hB3
        have Hgr3 := Lib.hid hgr3
        have Hr4 := Lib.hid hr4
        clear hown3 hgrow3 hat3 hB3 hown hgr3 hr3 hr4
        go_wp2
        go_roundg m
        case measure => have := Hgh.out; omega
        case rel => exact ⟨m, _, _, r2, q2, rfl, by go_num, HB3.out, Hr4.out, Hgr3.out, hN0.out, hN1.out⟩

set_option maxRecDepth 100000 in
set_option maxHeartbeats 4000000 in
theorem listSection_calls (p : Nat) (bs : List UInt8) (bad : Bool) (w : World) (h : Rd w p bs bad) (hlen : bad = false → bs.length ≤ 100000)  (R : Ending → World → Prop)
    (hR : ∀ (xs : List Section) (r : List UInt8) (q : Bool), (q = false → bad = false ∧ listL sectionL bs = some (xs, r)) → (q = true → bad = true ∨ listL sectionL bs = none) → ∀ w' v, w.grownBy w' (some p) → Rd w' p r q → rpSection.SLF w' w.heap.size w'.heap.size xs v → R (.returned v) w') :
    Calls Tryd.prog 122 #[.pointer (some ⟨p, 0, none⟩), .func (.func 123) #[.pointer (some ⟨p, 0, none⟩)] #[]] w R := by
  obtain ⟨iB, hi, zb0, zb1, zb2⟩ := info_parts info_Section
  have hpl := h.lt
  have HR := Lib.hid hR
  have Hrd := Lib.hid h
  clear hR h
  go_enter Tryd.func122, Tryd.ntmps122
  go_wp2_with fail
  refine many_any p bs bad _ Hrd.out _ (fun n0 r0 q0 hle hq0 hq1 w0 hg0 hr0 => ?_)
  have L0 : Hid (q0 = false → bad = false ∧ (timesL sectionL n0 r0).map (fun y => (([] : List Section) ++ y.1, y.2)) = listL sectionL bs ∧ n0 + 0 ≤ 100000 ∧ r0.length ≤ 100000) := Lib.hid fun hq => by
    obtain ⟨h1, h2⟩ := hq0 hq
    have h3 := manyL_short _ _ _ h2
    have h4 := hlen h1
    refine ⟨h1, ?_, by omega, by omega⟩
    unfold listL
    rw [h2]
    show _ = timesL sectionL n0 r0
    cases timesL sectionL n0 r0 <;> rfl
  have L1 : Hid (q0 = true → bad = true ∨ listL sectionL bs = none) := Lib.hid fun hq => by
    rcases hq1 hq with h1 | h1
    · exact .inl h1
    · right
      unfold listL
      rw [h1]
      rfl
  have Hg0 := Lib.hid hg0
  have Hr0 := Lib.hid hr0
  clear hq0 hq1 hg0 hr0 hle
  go_wp2
  go_loopg [5, 6] n0 (fun gh out s6 wr => ∃ (n : Nat) (xs : List Section) (css : List (List Value)) (r : List UInt8) (q : Bool), gh = n ∧ s6 = .int .i64 (n : Int) ∧ Built rpSection w.heap.size 64 (fun b => b < w.heap.size) wr out xs css ∧ Rd wr p r q ∧ w.grownBy wr (some p) ∧
    (q = false → bad = false ∧ (timesL sectionL n r).map (fun y => (xs ++ y.1, y.2)) = listL sectionL bs ∧ n + xs.length ≤ 100000 ∧ r.length ≤ 100000) ∧ (q = true → bad = true ∨ listL sectionL bs = none))
  case atStart => exact ⟨n0, [], [], r0, q0, rfl, rfl, Built.nil _ _ _ _ _ (fun _ h => h), Hr0.out, Hg0.out, L0.out, L1.out⟩
  case round =>
    obtain ⟨n, xs, css, r, q, hgh, rfl, hB, hrd, hgr, l0, l1⟩ := hrel
    have hpw := hrd.lt
    have hsz := hgr.size
    obtain ⟨vr, Tr, hblk, hsv⟩ := id hrd
    obtain ⟨A9, n9, rfl, _, _, _⟩ := hsv.cases_
    obtain ⟨c0, c1, z0, z1⟩ := cells_of_block hblk
    have HB := Lib.hid hB
    have HRd := Lib.hid hrd
    have Hgr := Lib.hid hgr
    have M0 := Lib.hid l0
    have M1 := Lib.hid l1
    have Hgh := Lib.hid hgh
    clear hB hrd hgr l0 l1 hblk hgh hsv
    have hexit : Hid ((q = true ∨ n = 0) → R (.returned u5) wr) := Lib.hid fun hx => by
      refine HR.out xs r q (fun hq => ?_) M1.out wr u5 Hgr.out HRd.out (HB.out.SLF (fun k hk => hk) (Nat.le_refl _) (Nat.le_refl _))
      obtain ⟨h1, h2, _, _⟩ := M0.out hq
      refine ⟨h1, ?_⟩
      rcases hx with hx | hx
      · rw [hq] at hx
        cases hx
      · subst hx
        rw [← h2]
        simp [timesL]
    cases q
    rotate_left
    · have hf := Lib.hid (hexit.out (.inl rfl))
      clear hexit
      by_cases hn : 0 < n
      · have i0 : (0 : Int) < (n : Int) := by omega
        go_wp2
        exact hf.out
      · have i0 : ¬ (0 : Int) < (n : Int) := by omega
        go_wp2
        exact hf.out
    · by_cases hn : n = 0
      · have hf := Lib.hid (hexit.out (.inr hn))
        have i0 : ¬ (0 : Int) < (n : Int) := by omega
        clear hexit
        go_wp2
        all_goals first | exact hf.out | (exfalso; omega)
      · have i0 : (0 : Int) < (n : Int) := by omega
        obtain ⟨m, rfl⟩ : ∃ m, n = m + 1 := ⟨n - 1, by omega⟩
        obtain ⟨hb, ht, hnl, hrl⟩ := M0.out rfl
        have Ht := Lib.hid ht
        have Hbb := Lib.hid hb
        obtain ⟨A5, n5, hu5⟩ : ∃ A c, u5 = .slice A xs.length c := own_slice HB.out.own
        subst hu5
        clear hexit hn ht hb
        go_wp2_with fail
        refine section_any p r false _ HRd.out (fun _ => hrl) _ (fun x r2 q2 h0 h1 w1 v1 v2 hg1 hr1 hv1 hv2 => ?_)
        obtain ⟨A8, n8, rfl, _, _, hv1⟩ := hv1.cases_
        obtain ⟨A7, n7, rfl, _, _, hv2⟩ := hv2.cases_
        have hsz1 := hg1.size
        have hkp : ∀ k, k < wr.heap.size → ¬ k < w.heap.size → w1.heap[k]? = wr.heap[k]? := fun k hk hn => hg1.block k hk (by intro e; injection e with e; omega)
        have hB1 := (HB.out.keep hsz1 hkp).alloc (Obj.cells #[.string x.name, .slice A8 x.code.length n8, .slice A7 x.mends.length n7] 64)
        have hA : Apart rpSection (fun b => b < w.heap.size) (w1.alloc (Obj.cells #[.string x.name, .slice A8 x.code.length n8, .slice A7 x.mends.length n7] 64)) (.slice A5 xs.length n5) x [.string x.name, .slice A8 x.code.length n8, .slice A7 x.mends.length n7] := by
          refine Apart.of_only (base := wr.heap.size) (rpSection_mk ((hv1.below ((Below.refl _ _).alloc (Nat.le_refl _) _) (Nat.le_refl _)).more (Nat.le_refl _) (by simp)) ((hv2.below ((Below.refl _ _).alloc (Nat.le_refl _) _) (Nat.le_refl _)).more (Nat.le_refl _) (by simp))) (fun k hk => by omega) (fun g hg => (HB.out.own.lt g hg).2)
        have Hr1 := Lib.hid hr1
        have HB1 := Lib.hid hB1
        have HA := Lib.hid hA
        have hgw := Lib.hid (grown_trans Hgr.out hg1)
        have hW : Hid ((w1.alloc (Obj.cells #[.string x.name, .slice A8 x.code.length n8, .slice A7 x.mends.length n7] 64)).ownsRow w.heap.size 64 3 (.slice A5 xs.length n5) xs.length css.flatten) := Lib.hid hB1.own
        have hN0 : Hid (q2 = false → bad = false ∧ (timesL sectionL m r2).map (fun y => ((xs ++ [x]) ++ y.1, y.2)) = listL sectionL bs ∧ m + (xs ++ [x]).length ≤ 100000 ∧ r2.length ≤ 100000) := Lib.hid fun hq => by
          have h2 := (h0 hq).2
          have h3 := sectionL_short _ _ _ h2
          refine ⟨Hbb.out, ?_, by rw [List.length_append]; simp; omega, by omega⟩
          rw [← timesL_step h2]
          exact Ht.out
        have hN1 : Hid (q2 = true → bad = true ∨ listL sectionL bs = none) := Lib.hid fun hq => by
          rcases h1 hq with h2 | h2
          · cases h2
          · right
            have := Ht.out
            rw [timesL_none h2] at this
            exact this.symm
        clear hg1 hr1 hB1 hA hkp h0 h1
        go_wp2_with (at_builtin; refine wpList_append_lies _ rfl _ _ 45 rfl w.heap.size 64 iB _ 3 64 Tryd.underlying45 hi zb0 zb1 zb2 rfl (by decide) (.slice A5 xs.length n5) xs.length css.flatten rfl hW.out ⟨w1.heap.size, 0, none⟩ 1 1 [.string x.name, .slice A8 x.code.length n8, .slice A7 x.mends.length n7] rfl rfl ?_ ?_ (by decide) ?_ ?_ ?_ _ rfl ?_)
        any_goals (first | exact World.news_of_block (cs := #[.string x.name, .slice A8 x.code.length n8, .slice A7 x.mends.length n7]) (t := 64) (fr := (0, 0)) (heap_alloc_new _ _) | (simp [Value.oneCell']; done) | (unfold maxLen; omega) | omega | (simp; done) | (simp; omega))
        intro gb cap w3 hown3 hgrow3 hat3 hlt3
        have hB3 := HB1.out.push hown3 rfl hgrow3 (by simpa using hat3) HA.out
        have hown : ∀ j, Value.ownBlock (.slice A5 xs.length n5) = some j → w.heap.size ≤ j := fun j hj => (HB.out.own.lt j hj).1
        have hgr3 := grown_row (grown_trans hgw.out (grown_of_below ((Below.refl _ _).alloc (Nat.le_refl _) (Obj.cells #[.string x.name, .slice A8 x.code.length n8, .slice A7 x.mends.length n7] 64)) (some p))) hgrow3 hown
        have hr3 := Hr1.out.other ((Below.refl _ _).alloc (Nat.le_refl _) (Obj.cells #[.string x.name, .slice A8 x.code.length n8, .slice A7 x.mends.length n7] 64))
        have hr4 : Rd w3 p r2 q2 := by
          have hl := hr3.lt
          obtain ⟨v8, T8, h8, h9⟩ := hr3
          refine ⟨v8, T8, (hgrow3.block p hl (fun e => by have := hown p e.symm; omega)).trans h8, h9.keep fun a ha => World.cell?_of_block (hgrow3.block _ (by omega) (fun e => by have := hown _ e.symm; omega))⟩
        have HB3 := Lib.hid hB3
        have Hgr3 := Lib.hid hgr3
        have Hr4 := Lib.hid hr4
        clear hown3 hgrow3 hat3 hB3 hown hgr3 hr3 hr4
        go_wp2
        go_roundg m
        case measure => have := Hgh.out; omega
        case rel => exact ⟨m, _, _, r2, q2, rfl, by go_num, HB3.out, Hr4.out, Hgr3.out, hN0.out, hN1.out⟩
end Go.Proofs.YtfhnmbnniklmiaaDoor
