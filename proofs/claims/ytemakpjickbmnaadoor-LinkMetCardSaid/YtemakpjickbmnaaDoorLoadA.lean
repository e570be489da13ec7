/- The reader of an object: numbers that may be, texts. object.list at int and at api.Mend, with their closures. The reader's global and section; object.list of them. object.Loaded: an object out of its bytes. -/
import Derived.Test.YtemakpjickbmnaaDoorBase
import Derived.Test.YtemakpjickbmnaaDoorRows
import Derived.IntWalk
import Derived.Outline
import Derived.Test.YtemakpjickbmnaaDoorReadB
import Derived.Test.YtemakpjickbmnaaDoorLoadP
import Derived.Deep.LoopGhost
import Derived.Lib.ConvBytes
/- The reader of an object: numbers that may be, texts. -/
namespace Go.Proofs.YtemakpjickbmnaaDoor
open Go.RowKit
set_option linter.unusedSimpArgs false
set_option linter.unusedVariables false

theorem bytes_drop {w : World} {B : Nat} {xs : List UInt8} {a : Addr} {n c k : Nat} (h : rpByte.SL w B xs (.slice (some a) n c)) (hk : k ≤ xs.length) (o : Addr) (ho : k < xs.length → o = a.add k) : rpByte.SL w B (xs.drop k) (.slice (some o) (n - k) (c - k)) := by
  have hn := h.len
  rcases Nat.lt_or_ge k xs.length with hlt | hge
  · obtain ⟨b, off, _, hA, _⟩ := h.at_ (List.getElem?_eq_getElem hlt)
    injection hA with hA
    subst hA
    have e := ho hlt
    have e2 : o = ⟨b, off + k, none⟩ := by
      rw [e]
      unfold Addr.add
      by_cases h0 : k = 0 <;> simp [h0]
    subst e2
    exact h.drop_ hk (off + k) (fun _ => by simp [rpByte])
  · obtain ⟨A', c', hv, hl, hc, _⟩ := h
    injection hv with _ _ hc'
    subst hc'
    rw [List.drop_of_length_le hge]
    exact ⟨_, c - k, by rw [hn]; congr 1; simp; omega, Nat.zero_le _, Nat.zero_le _, fun h => absurd h (Nat.lt_irrefl 0)⟩

end Go.Proofs.YtemakpjickbmnaaDoor

/- object.list at int and at api.Mend, with their closures. -/
namespace Go.Proofs.YtemakpjickbmnaaDoor
open Go.RowKit
set_option linter.unusedSimpArgs false
set_option linter.unusedVariables false
/-- A reader stays while a block above it is written. -/
theorem rd_far {w w' : World} {p b : Nat} {bs : List UInt8} {bad : Bool} (h : Rd w p bs bad) (hg : w.grownBy w' (some b)) (hb : p < b) : Rd w' p bs bad := by
  have hl := h.lt
  obtain ⟨v, T, h1, h2⟩ := h
  exact ⟨v, T, (hg.block p hl (by intro e; injection e with e; omega)).trans h1, h2.keep fun q hq => World.cell?_of_block (hg.block _ (by omega) (by intro e; injection e with e; omega))⟩

theorem res_Mend {fn : Func} {p : Tmp} (h : fn.results = #[.cell p 135]) {tmps : Array Value} {b : Nat} {w : World} {x y : Value} {T : TypeId} (hp : tmps.getD p undef = .pointer (some ⟨b, 0, none⟩))
    (hc : w.heap[b]? = some (.cells #[x, y] T (0, 0))) : (results fn tmps).run Tryd.prog w = .ok (.agg #[x, y]) w := by
  obtain ⟨c0, c1⟩ := cells_blk hc
  rw [Array.getD_eq_getD_getElem?] at hp
  simp [results, h, hp, go_sem, c0, c1]
theorem small_short : Short smallL := fun bs n r h => numberL_short _ _ _ (smallL_some.1 h).1
theorem mendL_short : Short mendL := fun bs m r h => by
  unfold mendL at h
  rw [Option.bind_eq_some_iff] at h
  obtain ⟨⟨n, r1⟩, h1, h2⟩ := h
  rw [Option.map_eq_some_iff] at h2
  obtain ⟨⟨s, r2⟩, h3, h4⟩ := h2
  obtain ⟨_, rfl⟩ := Prod.mk.inj h4
  have := small_short _ _ _ h1
  have := textL_short _ _ _ h3
  simp only [] at *
  omega
/-- Two things that are read, one behind the other. -/
theorem two_read {α β γ : Type} {A : Prs α} {B : Prs β} {f : α → β → γ} {bs r1 r2 : List UInt8} {bad q1 q2 : Bool} {x : α} {y : β} {C : Prs γ} (hC : ∀ bs, C bs = (A bs).bind fun a => (B a.2).map fun b => (f a.1 b.1, b.2))
    (a0 : q1 = false → bad = false ∧ A bs = some (x, r1)) (a1 : q1 = true → bad = true ∨ A bs = none) (b0 : q2 = false → q1 = false ∧ B r1 = some (y, r2)) (b1 : q2 = true → q1 = true ∨ B r1 = none) :
    (q2 = false → bad = false ∧ C bs = some (f x y, r2)) ∧ (q2 = true → bad = true ∨ C bs = none) := by
  constructor
  · intro h
    obtain ⟨h1, h2⟩ := b0 h
    obtain ⟨h3, h4⟩ := a0 h1
    refine ⟨h3, ?_⟩
    rw [hC, h4]
    simp [h2]
  · intro h
    cases q1
    · obtain ⟨h3, h4⟩ := a0 rfl
      rcases b1 h with h5 | h5
      · cases h5
      · right
        rw [hC, h4]
        simp [h5]
    · rcases a1 rfl with h5 | h5
      · exact .inl h5
      · right
        rw [hC, h5]
        rfl

end Go.Proofs.YtemakpjickbmnaaDoor

/- The reader's global and section; object.list of them. -/
namespace Go.Proofs.YtemakpjickbmnaaDoor
open Go.RowKit
set_option linter.unusedSimpArgs false
set_option linter.unusedVariables false

theorem three_set {w : World} {b : Nat} {x y z : Value} {T : TypeId} (h : w.heap[b]? = some (.cells #[x, y, z] T (0, 0))) : (∀ u, (w.setCell ⟨b, 0, none⟩ u).heap[b]? = some (.cells #[u, y, z] T (0, 0))) ∧ (∀ u, (w.setCell ⟨b, 1, none⟩ u).heap[b]? = some (.cells #[x, u, z] T (0, 0))) ∧ (∀ u, (w.setCell ⟨b, 2, none⟩ u).heap[b]? = some (.cells #[x, y, u] T (0, 0))) :=
  ⟨fun u => by rw [block_set h]; rfl, fun u => by rw [block_set h]; rfl, fun u => by rw [block_set h]; rfl⟩
theorem three_cells {w : World} {b : Nat} {x y z : Value} {T : TypeId} (h : w.heap[b]? = some (.cells #[x, y, z] T (0, 0))) : w.cell? ⟨b, 0, none⟩ = some x ∧ w.cell? ⟨b, 1, none⟩ = some y ∧ w.cell? ⟨b, 2, none⟩ = some z ∧ w.frozen? ⟨b, 0, none⟩ = false ∧ w.frozen? ⟨b, 1, none⟩ = false ∧ w.frozen? ⟨b, 2, none⟩ = false := by
  refine ⟨?_, ?_, ?_, ?_, ?_, ?_⟩ <;> simp [World.cell?, World.frozen?, h]
theorem res_Global {fn : Func} {p : Tmp} (h : fn.results = #[.cell p 108]) {tmps : Array Value} {b : Nat} {w : World} {x y z : Value} {T : TypeId} (hp : tmps.getD p undef = .pointer (some ⟨b, 0, none⟩))
    (hc : w.heap[b]? = some (.cells #[x, y, z] T (0, 0))) : (results fn tmps).run Tryd.prog w = .ok (.agg #[x, y, z]) w := by
  obtain ⟨c0, c1, c2, _⟩ := three_cells hc
  rw [Array.getD_eq_getD_getElem?] at hp
  simp [results, h, hp, go_sem, c0, c1, c2]
theorem res_Section {fn : Func} {p : Tmp} (h : fn.results = #[.cell p 71]) {tmps : Array Value} {b : Nat} {w : World} {x y z : Value} {T : TypeId} (hp : tmps.getD p undef = .pointer (some ⟨b, 0, none⟩))
    (hc : w.heap[b]? = some (.cells #[x, y, z] T (0, 0))) : (results fn tmps).run Tryd.prog w = .ok (.agg #[x, y, z]) w := by
  obtain ⟨c0, c1, c2, _⟩ := three_cells hc
  rw [Array.getD_eq_getD_getElem?] at hp
  simp [results, h, hp, go_sem, c0, c1, c2]
/-- Three things that are read, one behind the other. -/
theorem three_read {α β γ δ : Type} {A : Prs α} {B : Prs β} {C : Prs γ} {f : α → β → γ → δ} {bs r1 r2 r3 : List UInt8} {bad q1 q2 q3 : Bool} {x : α} {y : β} {z : γ} {D : Prs δ} (hD : ∀ bs, D bs = (A bs).bind fun a => (B a.2).bind fun b => (C b.2).map fun c => (f a.1 b.1 c.1, c.2))
    (a0 : q1 = false → bad = false ∧ A bs = some (x, r1)) (a1 : q1 = true → bad = true ∨ A bs = none) (b0 : q2 = false → q1 = false ∧ B r1 = some (y, r2)) (b1 : q2 = true → q1 = true ∨ B r1 = none)
    (c0 : q3 = false → q2 = false ∧ C r2 = some (z, r3)) (c1 : q3 = true → q2 = true ∨ C r2 = none) : (q3 = false → bad = false ∧ D bs = some (f x y z, r3)) ∧ (q3 = true → bad = true ∨ D bs = none) := by
  have hE := two_read (A := fun bs => (A bs).bind fun a => (B a.2).map fun b => ((a.1, b.1), b.2)) (B := C) (C := D) (f := fun a c => f a.1 a.2 c) (bs := bs) (r1 := r2) (r2 := r3) (bad := bad) (q1 := q2) (q2 := q3) (x := (x, y)) (y := z) (fun bs => by
    rw [hD]
    cases A bs with
    | none => rfl
    | some a =>
      cases hb : B a.2 with
      | none => simp [hb]
      | some b => simp [hb])
  have hab := two_read (A := A) (B := B) (C := fun bs => (A bs).bind fun a => (B a.2).map fun b => ((a.1, b.1), b.2)) (f := fun a b => (a, b)) (fun _ => rfl) a0 a1 b0 b1
  exact hE hab.1 hab.2 c0 c1
theorem globalL_short : Short globalL := fun bs g r h => by
  unfold globalL at h
  rw [Option.bind_eq_some_iff] at h
  obtain ⟨⟨s, r1⟩, h1, h2⟩ := h
  rw [Option.bind_eq_some_iff] at h2
  obtain ⟨⟨n, r2⟩, h3, h4⟩ := h2
  rw [Option.map_eq_some_iff] at h4
  obtain ⟨⟨xs, r3⟩, h5, h6⟩ := h4
  obtain ⟨_, rfl⟩ := Prod.mk.inj h6
  have := textL_short _ _ _ h1
  have := small_short _ _ _ h3
  have := listL_short intL_short _ _ _ h5
  simp only [] at *
  omega
theorem sectionL_short : Short sectionL := fun bs g r h => by
  unfold sectionL at h
  rw [Option.bind_eq_some_iff] at h
  obtain ⟨⟨s, r1⟩, h1, h2⟩ := h
  rw [Option.bind_eq_some_iff] at h2
  obtain ⟨⟨n, r2⟩, h3, h4⟩ := h2
  rw [Option.map_eq_some_iff] at h4
  obtain ⟨⟨xs, r3⟩, h5, h6⟩ := h4
  obtain ⟨_, rfl⟩ := Prod.mk.inj h6
  have := textL_short _ _ _ h1
  have := textL_short _ _ _ h3
  have := listL_short mendL_short _ _ _ h5
  simp only [] at *
  omega
/-- The reader behind a store into a block above it. -/
theorem rd_set {w : World} {p : Nat} {bs : List UInt8} {bad : Bool} (h : Rd w p bs bad) (a : Addr) (u : Value) (ha : p < a.block) : Rd (w.setCell a u) p bs bad := rd_far h (grown_setCell w a u) ha
theorem rd_alloc {w : World} {p : Nat} {bs : List UInt8} {bad : Bool} (h : Rd w p bs bad) (o : Obj) : Rd (w.alloc o) p bs bad := h.other ((Below.refl _ _).alloc (Nat.le_refl _) o)
theorem gr_alloc {w w' : World} {p : Nat} (h : w.grownBy w' (some p)) (o : Obj) : w.grownBy (w'.alloc o) (some p) := grown_trans h (grown_of_below ((Below.refl _ _).alloc (Nat.le_refl _) o) _)
theorem gr_set {w w' : World} {p : Nat} (h : w.grownBy w' (some p)) (a : Addr) (u : Value) (ha : w.heap.size ≤ a.block) : w.grownBy (w'.setCell a u) (some p) := grown_row h (grown_setCell w' a u) (fun j e => by injection e with e; omega)
theorem gr_blk {w w' : World} {p b : Nat} {X : Obj} (h : w.grownBy w' (some p)) (hb : w.heap[b]? = some X) (hne : b ≠ p) : w'.heap[b]? = some X := (h.block b (Array.getElem?_eq_some_iff.1 hb).1 (by intro e; injection e with e; exact hne e)).trans hb

theorem conv_text (w : World) (s : ByteArray) (hs : s.size ≤ maxLen) : ∃ W cap, (convert 9 67 (.string s)).run Tryd.prog w = .ok (.slice (some ⟨w.heap.size, 0, none⟩) s.size cap) W ∧ Below w.heap.size w W ∧ W.heap.size = w.heap.size + 1 ∧
    rpByte.SLF W w.heap.size W.heap.size s.data.toList (.slice (some ⟨w.heap.size, 0, none⟩) s.size cap) := by
  have hl : s.data.toList.length = s.size := by rw [Array.length_toList]; rfl
  refine ⟨_, _, Lib.run_convert_string_bytes w 9 67 5 s Tryd.underlying9 Tryd.underlying67 Tryd.underlying5, ⟨rfl, rfl, rfl, by rw [Lib.bytesWorld_size]; omega, fun k hk => Lib.bytesWorld_at_old w _ s k hk⟩, Lib.bytesWorld_size _ _ _, ?_⟩
  refine ⟨_, _, by rw [hl], by rw [hl]; exact hs, by rw [hl]; exact grownCap_ge _ _ _ _, fun hp => ⟨w.heap.size, 0, rfl, by rw [Lib.bytesWorld_size]; omega, fun k x hk => ⟨[.int .u8 x.toNat], rfl, fun j u hj => ?_⟩⟩⟩
  have hj1 : j = 0 := by
    have := (List.getElem?_eq_some_iff.1 hj).1
    simp at this
    exact this
  subst hj1
  simp at hj
  subst hj
  have hkl : k < s.size := by rw [← hl]; exact (List.getElem?_eq_some_iff.1 hk).1
  rw [only_cell_of _ _ _ (by simp)]
  have := Lib.bytesWorld_cell w 5 s k hkl
  rw [List.getD_eq_getElem?_getD, hk] at this
  simpa [rpByte] using this

end Go.Proofs.YtemakpjickbmnaaDoor

/- object.Loaded: an object out of its bytes. -/
namespace Go.Proofs.YtemakpjickbmnaaDoor
open Go.RowKit
set_option linter.unusedSimpArgs false
set_option linter.unusedVariables false

theorem or_byte (a b : Nat) (ha : a < 256) (hb : b < 256) : bits .or .i64 ((a : Int) * 256) (b : Int) = ((256 * a + b : Nat) : Int) := by
  have e0 : ((a : Int) * 256) = ((a * 256 : Nat) : Int) := by omega
  have e : bits .or .i64 ((a * 256 : Nat) : Int) (b : Int) = IntKind.i64.wrap ((BitVec.ofInt 64 ((a * 256 : Nat) : Int) ||| BitVec.ofInt 64 (b : Int)).toNat : Nat) := rfl
  rw [e0, e, BitVec.ofInt_natCast, BitVec.ofInt_natCast, BitVec.toNat_or, BitVec.toNat_ofNat, BitVec.toNat_ofNat, Nat.mod_eq_of_lt (show a * 256 < 2 ^ 64 by omega), Nat.mod_eq_of_lt (show b < 2 ^ 64 by omega)]
  have h := Nat.two_pow_add_eq_or_of_lt (i := 8) (b := b) (by simpa using hb) a
  rw [show a * 256 = 2 ^ 8 * a from by omega, ← h, IntKind.wrap_i64]
  omega
theorem byte_get_ {w : World} {B : Nat} {xs : List UInt8} {b off n c k : Nat} (h : rpByte.SL w B xs (.slice (some ⟨b, off, none⟩) n c)) (hk : k < xs.length) : w.cell? ⟨b, off + k, none⟩ = some (.int .u8 ((xs.getD k 0).toNat : Nat)) := by
  obtain ⟨b', o', hA, _, h1⟩ := h.byte_at hk
  injection hA with hA
  injection hA with e1 e2
  subst e1 e2
  rw [h1, List.getD_eq_getElem?_getD, List.getElem?_eq_getElem hk]
  rfl

theorem res_ObjB {fn : Func} {p t : Tmp} (h : fn.results = #[.cell p 66, .tmp t]) {tmps : Array Value} {b : Nat} {w : World} {x y v : Value} {T : TypeId} (hp : tmps.getD p undef = .pointer (some ⟨b, 0, none⟩)) (ht : tmps.getD t undef = v)
    (hc : w.heap[b]? = some (.cells #[x, y] T (0, 0))) : (results fn tmps).run Tryd.prog w = .ok (.tuple #[.agg #[x, y], v]) w := by
  obtain ⟨c0, c1⟩ := cells_blk hc
  rw [Array.getD_eq_getD_getElem?] at hp ht
  simp [results, h, hp, ht, go_sem, c0, c1]

theorem run_conv {P : Program} {ρ : Operand → Value} {o : Oper} {src dst : TypeId} {x : Operand} {u : Value} {w : World} (h : o.op = .convert src dst x) (hc : (convert src dst (ρ x)).run P w = .ok u w) : (execOp ρ o).run P w = .ok (.value u) w := by
  have e : ∀ m : Sem Value, m.run P w = .ok u w → (do pure (Next.value (← m)) : Sem Next).run P w = .ok (.value u) w := by
    intro m hm
    simp [go_sem, hm]
  unfold execOp
  rw [h]
  exact e _ hc
theorem quiet_conv {P : Program} {a : Act} {o : Oper} {K : Act → Prop} {W : World} {src dst : TypeId} {x : Operand} {v u : Value} (h : o.op = .convert src dst x) (hx : a.eval x = v) (hc : ∀ n, (convert src dst v).run P (W.drewN n) = .ok u (W.drewN n))
    (hk : K (a.put o.dst u)) : o.quiet P a (fun w' => ∃ n, w' = W.drewN n) K :=
  ⟨u, fun w hw => by
    obtain ⟨n, rfl⟩ := hw
    unfold Oper.quietAt
    rw [run_conv h (by rw [hx]; exact hc n)]
    exact ⟨rfl, rfl⟩, hk⟩

/-- A fresh list stays while only blocks beyond its own are written. -/
theorem Rp.SLF.keepB {α : Type} {r : Rp α} {w w' : World} {b B : Nat} {xs : List α} {v : Value} (h : r.SLF w b B xs v) (hk : ∀ k, b ≤ k → k < B → w'.heap[k]? = w.heap[k]?) : r.SLF w' b B xs v := Rp.SL.mono h fun p u hp hc => by
  obtain ⟨h1, h2⟩ := only_cell hc
  rw [only_cell_of _ _ _ h2]
  exact (World.cell?_of_block (hk _ (of_decide_eq_true h2) hp)).trans h1

end Go.Proofs.YtemakpjickbmnaaDoor
