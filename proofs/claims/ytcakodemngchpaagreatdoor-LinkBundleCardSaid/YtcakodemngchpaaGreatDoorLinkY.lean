/- Code that is linked, plainly: calls get the places of the names that their mends tell. bytes.Of: the bytes of instructions. Routines and images as they lie in memory. -/
import Derived.Test.YtcakodemngchpaaGreatDoorLinkP2
import Derived.Test.YtcakodemngchpaaGreatDoorKitPl
import Derived.Test.YtcakodemngchpaaGreatDoorBackA
import Derived.Test.YtcakodemngchpaaGreatDoorPlainA
import Derived.Test.YtcakodemngchpaaGreatDoorBase
import Derived.Test.YtcakodemngchpaaGreatDoorRows
import Derived.IntWalk
import Derived.Deep.LoopGhost
import Derived.Deep.CutBlock
import Derived.Deep.DeepCutAuto
import Derived.Deep.RegionHeld3
import Derived.Outline
import Derived.Test.YtcakodemngchpaaGreatDoorReadB
import Derived.Test.YtcakodemngchpaaGreatDoorReadC
import Derived.Test.YtcakodemngchpaaGreatDoorAppA
import Derived.Test.YtcakodemngchpaaGreatDoorMacB
import Derived.Test.YtcakodemngchpaaGreatDoorLinkA
import Derived.Test.YtcakodemngchpaaGreatDoorCopyA
/- Code that is linked, plainly: calls get the places of the names that their mends tell. -/
namespace Go.Proofs.YtcakodemngchpaaGreatDoor
open Go.RowKit
set_option linter.unusedSimpArgs false
set_option linter.unusedVariables false

theorem macF_good {m : Mac} {len : Int} (h : macF m len = 0) (hn : I64 m.n) : GoodMac m := by
  unfold macF at h
  by_cases hk : known m.op = false
  · rw [if_pos hk] at h
    cases h
  rw [if_neg hk] at h
  simp only [] at h
  split at h
  · cases h
  rename_i h3
  refine ⟨by simpa using hk, fun x hx => ?_, hn⟩
  simp only [not_or] at h3
  obtain ⟨f1, f2, f3, _⟩ := h3
  have key : ∀ (u : Bool) (r : Int), ¬ fieldF u r = 3 → x ∈ (if u = true then [r] else []) → 0 ≤ x ∧ x ≤ 15 := fun u r hf hx => by
    cases u with
    | false => simp at hx
    | true =>
      have : x = r := by simpa using hx
      subst this
      unfold fieldF at hf
      simp only [if_true] at hf
      split at hf
      · exact absurd rfl hf
      · omega
  unfold regsOf at hx
  rcases List.mem_append.1 hx with hx | hx
  · rcases List.mem_append.1 hx with hx | hx
    · exact key _ _ f1 hx
    · exact key _ _ f2 hx
  · exact key _ _ f3 hx
theorem macsFrom_all {l : List Mac} : ∀ (f i : Nat), f + i = l.length → macsFrom l f i = (0, 0) → ∀ k, i ≤ k → k < l.length → macF (l.getD k ⟨0, 0, 0, 0, 0⟩) l.length = 0
  | 0, i, hf, _, k, hk, hl => by omega
  | f + 1, i, hf, h, k, hk, hl => by
    rw [macsFrom] at h
    by_cases h0 : macF (l.getD i ⟨0, 0, 0, 0, 0⟩) l.length ≠ 0
    · rw [if_pos h0] at h
      exact absurd (congrArg Prod.fst h) h0
    rw [if_neg h0] at h
    by_cases e : k = i
    · subst e
      simpa using h0
    · exact macsFrom_all f (i + 1) (by omega) h k (by omega) hl
theorem macL_num {bs : List UInt8} {m : Mac} {r : List UInt8} (h : macL bs = some (m, r)) : I64 m.n := by
  cases bs with
  | nil => cases h
  | cons b bs =>
    rw [macL] at h
    split at h
    · cases h
    rw [Option.bind_eq_some_iff] at h
    obtain ⟨⟨rs, r1⟩, _, h⟩ := h
    simp only [] at h
    split at h
    · obtain ⟨rfl, _⟩ := Prod.mk.inj (Option.some.inj h)
      unfold placeRegs I64
      simp
    · rw [Option.map_eq_some_iff] at h
      obtain ⟨⟨n, r2⟩, h1, h2⟩ := h
      obtain ⟨rfl, _⟩ := Prod.mk.inj h2
      exact unfoldN_wide (numberL_num h1).2
theorem macsL_num : ∀ (f : Nat) (bs : List UInt8) (l : List Mac), macsL f bs = some l → ∀ m ∈ l, I64 m.n
  | f, [], l, h, m, hm => by
    have : l = [] := by
      cases f <;> simp [macsL] at h <;> exact h
    subst this
    cases hm
  | 0, b :: bs, l, h, m, hm => by simp [macsL] at h
  | f + 1, b :: bs, l, h, m, hm => by
    rw [macsL, Option.bind_eq_some_iff] at h
    obtain ⟨⟨x, r⟩, h1, h2⟩ := h
    rw [Option.map_eq_some_iff] at h2
    obtain ⟨l', h3, rfl⟩ := h2
    rcases List.mem_cons.1 hm with rfl | hm
    · exact macL_num h1
    · exact macsL_num f r l' h3 m hm
theorem readL_good {bs : List UInt8} {l : List Mac} (h : readL bs = some l) : (∀ m ∈ l, GoodMac m) ∧ l.length ≤ 5000 := by
  unfold readL at h
  split at h
  · cases h
  rw [Option.bind_eq_some_iff] at h
  obtain ⟨l', h1, h2⟩ := h
  split at h2
  · rename_i hf
    injection h2 with h2
    subst h2
    have hn := macsL_num _ _ _ h1
    unfold macsFault at hf
    split at hf
    · simp at hf
    split at hf
    · simp at hf
    refine ⟨fun m hm => ?_, by omega⟩
    obtain ⟨k, hk, e⟩ := List.mem_iff_getElem.1 hm
    have := macsFrom_all _ 0 (by omega) hf k (Nat.zero_le _) hk
    rw [List.getD_eq_getElem?_getD, List.getElem?_eq_getElem hk, e] at this
    exact macF_good this (hn m hm)
  · cases h2

/-- The place of a name in a list; -1: none (as in Link1). -/
def placeB (l : List ByteArray) (nm : ByteArray) : Int := match l.findIdx? fun x => decide (x = nm) with
  | some k => (k : Int)
  | none => -1
def toCall (l : List Mac) (k : Nat) (n : Int) : List Mac := l.set k ⟨(l.getD k ⟨0, 0, 0, 0, 0⟩).op, (l.getD k ⟨0, 0, 0, 0, 0⟩).dst, (l.getD k ⟨0, 0, 0, 0, 0⟩).a, (l.getD k ⟨0, 0, 0, 0, 0⟩).b, n⟩
/-- Code behind its mends; none: a name has no place. -/
def mendTo (order : List ByteArray) : List Mend → List Mac → Option (List Mac)
  | [], l => some l
  | m :: ms, l => if placeB order m.name < 0 then none else mendTo order ms (toCall l m.at_.toNat (placeB order m.name))
def routB (order : List ByteArray) (s : Section) : Option (List UInt8) := (mendTo order s.mends ((readL s.code).getD [])).map codeB
theorem toCall_len (l : List Mac) (k : Nat) (n : Int) : (toCall l k n).length = l.length := by unfold toCall; rw [List.length_set]
theorem toCall_good {l : List Mac} (h : ∀ m ∈ l, GoodMac m) {k : Nat} (hk : k < l.length) {n : Int} (hn : I64 n) : ∀ m ∈ toCall l k n, GoodMac m := fun m hm => by
  unfold toCall at hm
  rcases List.mem_or_eq_of_mem_set hm with hm | rfl
  · exact h m hm
  · have e : l.getD k ⟨0, 0, 0, 0, 0⟩ = l[k] := by rw [List.getD_eq_getElem?_getD, List.getElem?_eq_getElem hk]; rfl
    have hg := h _ (List.getElem_mem hk)
    rw [e]
    exact ⟨hg.known, hg.regs, hn⟩
/-- What linking comes to. -/
structure Routine where
  name : ByteArray
  code : List UInt8
structure Image where
  globals : List Global
  routines : List Routine
def secAt (S : List Section) (nm : ByteArray) : Section := (secFind S nm).getD ⟨ByteArray.empty, [], []⟩
def routsTo (S : List Section) (order : List ByteArray) : Nat → Nat → List Routine → Image → Image × (Int × Int)
  | 0, _, rs, g => if 40 < rs.length then (⟨[], []⟩, (2, 0)) else (⟨g.globals, rs⟩, (0, 0))
  | f + 1, i, rs, g => match routB order (secAt S (order.getD i ByteArray.empty)) with
    | none => (⟨[], []⟩, (6, (i : Int)))
    | some c => routsTo S order f (i + 1) (rs ++ [⟨order.getD i ByteArray.empty, c⟩]) g
def linkDo (l : List Object) : Image × (Int × Int) := if (metF l).1 ≠ 0 then (⟨[], []⟩, metF l) else routsTo (allS l) (metO l).1 (metO l).1.length 0 [] ⟨(l.getD 0 ⟨[], []⟩).globals, []⟩
end Go.Proofs.YtcakodemngchpaaGreatDoor

/- bytes.Of: the bytes of instructions. -/
namespace Go.Proofs.YtcakodemngchpaaGreatDoor
open Go.RowKit
set_option linter.unusedSimpArgs false
set_option linter.unusedVariables false

theorem byte_of_ {x : Int} (h0 : 0 ≤ x) (h1 : x < 256) : byteCells (UInt8.ofNat x.toNat) = [.int .u8 x] := by
  have e : ((UInt8.ofNat x.toNat).toNat : Int) = x := by
    rw [UInt8.toNat_ofNat']
    omega
  unfold byteCells
  rw [e]
/-- What stands in an instruction's register. -/
def regAt (m : Mac) (p : Nat) : Int := if p = 1 then m.dst else if p = 2 then m.a else m.b
theorem regs_at (m : Mac) : regsOf m = (regOffs (shapeOf m.op)).map (regAt m) := by
  unfold regsOf regOffs
  cases (shapeOf m.op).d <;> cases (shapeOf m.op).a <;> cases (shapeOf m.op).b <;> rfl
theorem cell_reg {w : World} {M : Nat} {m : Mac} {T : TypeId} (h : w.heap[M]? = some (.cells m.arr T (0, 0))) {p : Nat} (hp : p = 1 ∨ p = 2 ∨ p = 3) : w.cell? ⟨M, p, none⟩ = some (.int .i64 (regAt m p)) := by
  obtain ⟨_, a1, a2, a3, _, _⟩ := cells_of_arr h
  rcases hp with rfl | rfl | rfl
  · exact a1
  · exact a2
  · exact a3
theorem offs_in {op : Int} {p : Nat} (h : p ∈ regOffs (shapeOf op)) : p = 1 ∨ p = 2 ∨ p = 3 := by
  rcases regs_of op with e | e | e | e | e | e | e <;> rw [e] at h <;> simp at h <;> omega
theorem four_cells_ {w : World} {b : Nat} {x y z u : Value} {T : TypeId} (h : w.heap[b]? = some (.cells #[x, y, z, u] T (0, 0))) : w.cell? ⟨b, 0, none⟩ = some x ∧ w.cell? ⟨b, 1, none⟩ = some y ∧ w.cell? ⟨b, 2, none⟩ = some z ∧ w.cell? ⟨b, 3, none⟩ = some u ∧ (∀ j, w.frozen? ⟨b, j, none⟩ = false) := by
  refine ⟨?_, ?_, ?_, ?_, fun j => ?_⟩ <;> simp [World.cell?, World.frozen?, h]
theorem Buf.type {w : World} {base : Nat} {v : Value} {bs : List UInt8} (h : Buf w base v bs) {g : Nat} (hg : v.ownBlock = some g) : ∃ cur fr, w.heap[g]? = some (.cells cur 5 fr) := by
  rcases h with h | ⟨_, _, g', cur, fr, rfl, _, hh, _⟩
  · rcases h.2 with ⟨rfl, _⟩ | ⟨g', cap, cur, rfl, _, hh, _⟩
    · cases hg
    · obtain rfl : g' = g := Option.some.inj hg
      exact ⟨cur, _, hh⟩
  · obtain rfl : g' = g := Option.some.inj hg
    exact ⟨cur, fr, hh⟩

/-- What stands while an instruction is written: the bytes so far, the instruction, its shape. -/
structure BF (w wr : World) (v0 v : Value) (base : Nat) (cur : List UInt8) (V1 : Nat) (m : Mac) (s : Shape) : Prop where
  buf : Buf wr base v cur
  gr : Grew (fun k => v0.ownBlock = some k) w wr
  came : Came w v0 v
  hm : wr.heap[w.heap.size]? = some (.cells m.arr 54 (0, 0))
  hs : wr.heap[V1]? = some (.cells #[.bool s.d, .bool s.a, .bool s.b, .int .i64 s.n] 194 (0, 0))
theorem BF.below {w wr w' : World} {v0 v : Value} {base : Nat} {cur : List UInt8} {V1 : Nat} {m : Mac} {s : Shape} (h : BF w wr v0 v base cur V1 m s) (hb : Below wr.heap.size wr w') : BF w w' v0 v base cur V1 m s :=
  ⟨h.buf.below hb (Nat.le_refl _), h.gr.on hb, h.came, (hb.block _ (blk_lt h.hm)).trans h.hm, (hb.block _ (blk_lt h.hs)).trans h.hs⟩
theorem BF.grew {w wr w' : World} {v0 v v' : Value} {base : Nat} {cur cur' : List UInt8} {V1 : Nat} {m : Mac} {s : Shape} (h : BF w wr v0 v base cur V1 m s) (hb : Buf w' base v' cur') (hg : Grew (fun k => v.ownBlock = some k) wr w') (hc : Came wr v v') : BF w w' v0 v' base cur' V1 m s := by
  have hty : ∀ k a T, v.ownBlock = some k → wr.heap[k]? = some (.cells a T (0, 0)) → T = 5 := fun k a T hk hh => by
    obtain ⟨c, fr, hc⟩ := h.buf.type hk
    rw [hh] at hc
    injection hc with hc
    injection hc
  refine ⟨hb, h.gr.trans hg fun j hj e => ?_, h.came.trans hc h.gr.size, (hg.block _ (blk_lt h.hm) (fun e => ?_)).trans h.hm, (hg.block _ (blk_lt h.hs) (fun e => ?_)).trans h.hs⟩
  · rcases h.came j e with h1 | h1
    · exact h1
    · omega
  · have := hty _ _ _ e h.hm
    simp at this
  · have := hty _ _ _ e h.hs
    simp at this
theorem Grew.of_drew_ {X : Nat → Prop} {w w' : World} (h : Grew X w.drew w') : Grew X w w' := ⟨h.os, h.tape, h.output, h.size, h.block⟩
/-- Pointers that are still to be read. -/
def PL (wr : World) (V : Nat) (ps : List Nat) (v : Value) : Prop :=
  (ps = [] ∧ ∃ A c, v = .slice A 0 c) ∨ ∃ G off c cur, v = .slice (some ⟨G, off, none⟩) ps.length c ∧ ps.length ≤ c ∧ wr.heap[G]? = some (.cells cur 200 (0, 0)) ∧ ∀ k x, ps[k]? = some x → wr.cell? ⟨G, off + k, none⟩ = some (ptrM V x)
theorem PL.own {w : World} {base V : Nat} {v : Value} {ps : List Nat} (h : w.ownsRow base 200 1 v ps.length (ps.map (ptrM V))) : PL w V ps v := by
  obtain ⟨h1, h2⟩ := h
  rcases h2 with ⟨rfl, h2⟩ | ⟨g, cap, cur, rfl, _, hh, hnc, _, _, htk⟩
  · exact .inl ⟨List.eq_nil_of_length_eq_zero h2, _, _, rfl⟩
  · refine .inr ⟨g, 0, cap, cur, rfl, hnc, hh, fun k x hk => ?_⟩
    have hkl := (List.getElem?_eq_some_iff.1 hk).1
    have : (cur.toList.take (ps.length * 1))[k]? = some (ptrM V x) := by rw [htk, List.getElem?_map, hk]; rfl
    rw [List.getElem?_take, if_pos (by omega), Array.getElem?_toList] at this
    rw [Nat.zero_add]
    simpa [World.cell?, hh] using this
theorem or_nib : ∀ x : Nat, x < 16 → ∀ y : Nat, y < 16 → bits .or .i64 (16 * (x : Int)) (y : Int) = 16 * (x : Int) + (y : Int) := by decide +kernel

set_option maxRecDepth 100000 in
set_option maxHeartbeats 4000000 in
theorem bcode_calls (m : Mac) (hg : GoodMac m) (v : Value) (bs : List UInt8) (base : Nat) (w : World) (hB : Buf w base v bs) (hlen : bs.length ≤ 1000000000) (hbase : base ≤ w.heap.size) (hS : Shapes w) (R : Ending → World → Prop)
    (hR : ∀ w' v', Grew (fun k => v.ownBlock = some k) w w' → Buf w' base v' (bs ++ macB m) → Came w v v' → R (.returned v') w') :
    Calls Tryz.prog 83 #[v, .agg #[.int .i64 m.op, .int .i64 m.dst, .int .i64 m.a, .int .i64 m.b, .int .i64 m.n]] w R := by
  have h0 := hS.1
  obtain ⟨A, c, rfl⟩ := hB.slice
  have hop : 1 ≤ m.op ∧ m.op ≤ 47 := by have := hg.known; unfold known at this; simpa using this
  have HR := Lib.hid hR
  have HB := Lib.hid hB
  have HSh := Lib.hid hS
  have Hg := Lib.hid hg
  obtain ⟨W0, hW0⟩ : ∃ W0, W0 = w.alloc (Obj.cells #[.int .i64 m.op, .int .i64 m.dst, .int .i64 m.a, .int .i64 m.b, .int .i64 m.n] 54) := ⟨_, rfl⟩
  have hb0 : Below w.heap.size w W0 := by subst hW0; exact bl0
  have hV0 : W0.heap[w.heap.size]? = some (.cells m.arr 54 (0, 0)) := by subst hW0; exact heap_alloc_new _ _
  have HW0 := Lib.hid hW0.symm
  have HV0 := Lib.hid hV0
  have Hb0 := Lib.hid hb0
  obtain ⟨a0, a1, a2, a3, a4, az⟩ := cells_of_arr hV0
  have hl0 := blk_lt hV0
  clear hR hB hS hg hW0 hb0 hV0
  go_enter Tryz.func83, Tryz.ntmps83
  go_upto_region 1 with fail
  rw [HW0.out]
  go_wp2_with fail
  refine Of_calls m.op _ (HSh.out.up Hb0.out h0) _ (fun w1 hb1 => ?_)
  obtain ⟨s, hs⟩ : ∃ s, s = shapeOf m.op := ⟨_, rfl⟩
  rw [← hs, Hg.out.known]
  have Hs := Lib.hid hs
  unfold Shape.val
  obtain ⟨W1, hW1⟩ : ∃ W1, W1 = w1.alloc (Obj.cells #[.bool s.d, .bool s.a, .bool s.b, .int .i64 s.n] 194) := ⟨_, rfl⟩
  have hbW1 : Below w1.heap.size w1 W1 := by subst hW1; exact bl0
  have hV1 : W1.heap[w1.heap.size]? = some (.cells #[.bool s.d, .bool s.a, .bool s.b, .int .i64 s.n] 194 (0, 0)) := by subst hW1; exact heap_alloc_new _ _
  have hb01 := hb1.trans (hbW1.mono hb1.size)
  have hV01 := (hb01.block _ hl0).trans HV0.out
  have HW1 := Lib.hid hW1.symm
  have HV1 := Lib.hid hV1
  have HV01 := Lib.hid hV01
  have Hb1 := Lib.hid (Hb0.out.trans (hb01.mono Hb0.out.size))
  have HB1 := Lib.hid (HB.out.below Hb1.out (Nat.le_refl _))
  clear hs hb1 hW1 hbW1 hV1 hb01 hV01 a0 a1 a2 a3 a4 az
  obtain ⟨a0, a1, a2, a3, a4, az⟩ := cells_of_arr HV01.out
  have hl1 : w.heap.size < W1.heap.size := blk_lt HV01.out
  have hop8 : IntKind.u8.wrap m.op = m.op := by rw [IntKind.wrap_u8]; omega
  have Hby := Lib.hid (byte_of_ (x := m.op) (by omega) (by omega))
  have HBa := Lib.hid (HB1.out.alloc (Obj.cells #[.int .u8 m.op] 5))
  have hbs1 : base ≤ W1.heap.size + 1 := by have := Hb1.out.size; omega
  go_upto_region 2 with fail
  rw [HW1.out]
  go_wp2_with (at_builtin; refine wpList_app_buf _ rfl _ _ _ rfl Tryz.underlying25 rfl HBa.out rfl (one_src Hby.out) (by simp; omega) (by simpa using hbs1) ?_)
  intro v2 w2 hb2 hg2 hc2
  have hbf0 : BF w W1 (.slice A bs.length c) (.slice A bs.length c) base bs w1.heap.size m s :=
    ⟨HB1.out, (Grew.refl _ _).on Hb1.out, Came.refl _ _, HV01.out, HV1.out⟩
  have hbf2 := (hbf0.below ((Below.refl _ _).alloc (Nat.le_refl _) (Obj.cells #[.int .u8 m.op] 5))).grew hb2 hg2 hc2
  have hb02 := hbf2.gr
  have hz2 : W1.heap.size + 1 ≤ w2.heap.size := by have := hg2.size; simpa using this
  obtain ⟨A2, c2, rfl⟩ := hb2.slice
  obtain ⟨pre, hpre⟩ : ∃ pre, pre = bs ++ [UInt8.ofNat m.op.toNat] := ⟨_, rfl⟩
  rw [show (bs ++ [UInt8.ofNat m.op.toNat]).length = bs.length + 1 from by simp, ← hpre] at hbf2
  have Hpre := Lib.hid hpre
  have Hbf2 := Lib.hid hbf2
  clear a0 a1 a2 a3 a4 az hop8 hbf0 hb2 hg2 hc2 hb02
  obtain ⟨x0, x1, x2, x3, xz⟩ := four_cells_ Hbf2.out.hs
  have hlV1 := blk_lt Hbf2.out.hs
  have hlV := blk_lt Hbf2.out.hm
  go_wp2_with fail
  refine registers_calls s w.heap.size _ hlV _ (fun w3 v7 hb3 hown3 => ?_)
  have hbf3 := Hbf2.out.below hb3
  have hpl3 : PL w3 w.heap.size (regOffs s) v7 := PL.own (by simpa using hown3)
  have Hbf3 := Lib.hid hbf3
  have Hpl3 := Lib.hid hpl3
  obtain ⟨n7, A7, c7, hv7⟩ : ∃ n A c, v7 = .slice A n c := by
    rcases hpl3 with ⟨_, A, c, h⟩ | ⟨G, off, c, cur, h, _⟩
    · exact ⟨_, _, _, h⟩
    · exact ⟨_, _, _, h⟩
  subst hv7
  have hrg : regsOf m = (regOffs s).map (regAt m) := by rw [Hs.out]; exact regs_at m
  have Hrg := Lib.hid hrg
  have hr15 : ∀ p ∈ regOffs s, (p = 1 ∨ p = 2 ∨ p = 3) ∧ 0 ≤ regAt m p ∧ regAt m p ≤ 15 := fun p hp => by
    refine ⟨offs_in (op := m.op) (by rw [← Hs.out]; exact hp), ?_⟩
    exact Hg.out.regs _ (by rw [hrg]; exact List.mem_map.2 ⟨p, hp, rfl⟩)
  have Hr15 := Lib.hid hr15
  have hrl : (regOffs s).length ≤ 3 := by have := regsOf_len m; rw [hrg, List.length_map] at this; exact this
  clear hb3 hown3 hbf3 hpl3 hrg hr15 x0 x1 x2 x3 xz
  go_wp2_with fail
  go_loopg [0, 7] (regOffs s).length (fun g s0 s7 wr => ∃ (ps : List Nat) (cur : List UInt8), g = ps.length ∧ ps.length ≤ 3 ∧ cur.length ≤ 1000000010 ∧ (∀ p ∈ ps, (p = 1 ∨ p = 2 ∨ p = 3) ∧ 0 ≤ regAt m p ∧ regAt m p ≤ 15) ∧ PL wr w.heap.size ps s7 ∧ BF w wr (.slice A bs.length c) s0 base cur w1.heap.size m s ∧ cur ++ regsB (ps.map (regAt m)) = pre ++ regsB (regsOf m))
  case atStart => exact ⟨regOffs s, pre, rfl, hrl, by rw [Hpre.out]; simp; omega, Hr15.out, Hpl3.out, Hbf3.out, by rw [Hrg.out]⟩
  case round =>
    obtain ⟨ps, cur, rfl, hp3, hcl, hps, hpl, hbf, hcur⟩ := hrel
    obtain ⟨A4, c4, rfl⟩ := hbf.buf.slice
    have Hps := Lib.hid hps
    have Hbf := Lib.hid hbf
    have Hcur := Lib.hid hcur
    have hlVr := blk_lt hbf.hm
    have hbsr : base ≤ wr.heap.size := by have := hbf.gr.size; omega
    rcases hpl with ⟨rfl, A5, c5, rfl⟩ | ⟨G, off, c5, gc, rfl, hc5, hG, hcells⟩
    · -- nothing is left
      have hcur0 : cur = pre ++ regsB (regsOf m) := by
        have h := Hcur.out
        simpa [regsB] using h
      have HC0 := Lib.hid hcur0
      obtain ⟨x0, x1, x2, x3, xz⟩ := four_cells_ hbf.hs
      obtain ⟨a0, a1, a2, a3, a4, az⟩ := cells_of_arr hbf.hm
      have hlV1 := blk_lt hbf.hs
      clear hcur0 hbf hps
      by_cases hn : s.n = 0
      · have e0 : (s.n != 0) = false := by simp [hn]
        have hfin := Lib.hid (HR.out wr _ Hbf.out.gr (by
          have h := Hbf.out.buf
          rw [HC0.out, Hpre.out] at h
          unfold macB
          rw [← Hs.out, if_pos hn, List.append_nil]
          rw [HC0.out, Hpre.out]
          simpa using h) Hbf.out.came)
        clear hn
        go_wp2
        exact hfin.out
      · have e0 : (s.n != 0) = true := by simp [hn]
        have hfl := foldN_lt Hg.out.num.1 Hg.out.num.2
        have Hn := Lib.hid hn
        clear hn
        go_wp2_with fail
        refine Fold_calls m.n _ Hg.out.num _ ?_
        go_wp2_with fail
        refine bNumber_calls _ cur (foldN m.n) base _ Hbf.out.buf hfl (by omega) hbsr _ (fun w8 v8 hg8 hb8 hc8 => ?_)
        have hbf8 := Hbf.out.grew hb8 hg8 hc8
        have hfin := Lib.hid (HR.out w8 v8 hbf8.gr (by
          have h := hb8
          rw [HC0.out, Hpre.out] at h
          unfold macB
          rw [← Hs.out, if_neg Hn.out]
          simpa using h) hbf8.came)
        clear hg8 hb8 hc8 hbf8
        go_wp2
        exact hfin.out
    · match ps, hps, hcur, hc5, hcells, hp3, Hps, Hcur with
      | [], hps, hcur, hc5, hcells, hp3, Hps, Hcur =>
        clear hcells hG
        have hcur0 : cur = pre ++ regsB (regsOf m) := by
          have h := Hcur.out
          simpa [regsB] using h
        have HC0 := Lib.hid hcur0
        obtain ⟨x0, x1, x2, x3, xz⟩ := four_cells_ hbf.hs
        obtain ⟨a0, a1, a2, a3, a4, az⟩ := cells_of_arr hbf.hm
        have hlV1 := blk_lt hbf.hs
        clear hcur0 hbf hps
        by_cases hn : s.n = 0
        · have e0 : (s.n != 0) = false := by simp [hn]
          have hfin := Lib.hid (HR.out wr _ Hbf.out.gr (by
            have h := Hbf.out.buf
            rw [HC0.out, Hpre.out] at h
            unfold macB
            rw [← Hs.out, if_pos hn, List.append_nil]
            rw [HC0.out, Hpre.out]
            simpa using h) Hbf.out.came)
          clear hn
          go_wp2
          exact hfin.out
        · have e0 : (s.n != 0) = true := by simp [hn]
          have hfl := foldN_lt Hg.out.num.1 Hg.out.num.2
          have Hn := Lib.hid hn
          clear hn
          go_wp2_with fail
          refine Fold_calls m.n _ Hg.out.num _ ?_
          go_wp2_with fail
          refine bNumber_calls _ cur (foldN m.n) base _ Hbf.out.buf hfl (by omega) hbsr _ (fun w8 v8 hg8 hb8 hc8 => ?_)
          have hbf8 := Hbf.out.grew hb8 hg8 hc8
          have hfin := Lib.hid (HR.out w8 v8 hbf8.gr (by
            have h := hb8
            rw [HC0.out, Hpre.out] at h
            unfold macB
            rw [← Hs.out, if_neg Hn.out]
            simpa using h) hbf8.came)
          clear hg8 hb8 hc8 hbf8
          go_wp2
          exact hfin.out
      | [p], hps, hcur, hc5, hcells, hp3, Hps, Hcur =>
        obtain ⟨hpo, hx0, hx1⟩ := hps p (by simp)
        have q0 := hcells 0 p rfl
        rw [Nat.add_zero] at q0
        simp only [ptrM] at q0
        have q1 := cell_reg hbf.hm hpo
        obtain ⟨x, hx⟩ : ∃ x, x = regAt m p := ⟨_, rfl⟩
        rw [← hx] at q1 hx0 hx1
        have hcur0 : cur ++ [UInt8.ofNat x.toNat] = pre ++ regsB (regsOf m) := by
          have h := Hcur.out
          rw [← h, List.map_cons, List.map_nil, ← hx]
          rfl
        have HC0 := Lib.hid hcur0
        have hb8' : IntKind.u8.wrap x = x := by rw [IntKind.wrap_u8]; omega
        have Hby1 := Lib.hid (byte_of_ (x := x) hx0 (by omega))
        have HBa := Lib.hid (hbf.buf.alloc (Obj.cells #[.int .u8 x] 5))
        have hbs2 : base ≤ wr.heap.size + 1 := by omega
        clear hcells hG hx hcur0 hbf hps hpo
        go_wp2_with (at_builtin; refine wpList_app_buf _ rfl _ _ _ rfl Tryz.underlying25 rfl HBa.out rfl (one_src Hby1.out) (by simp; omega) (by simpa using hbs2) ?_)
        intro v5 w5 hb5 hg5 hc5'
        obtain ⟨cur5, hcur5⟩ : ∃ c, c = cur ++ [UInt8.ofNat x.toNat] := ⟨_, rfl⟩
        rw [← hcur5] at hb5 HC0
        have hcl5 : cur5.length ≤ 1000000020 := by rw [hcur5]; simp; omega
        clear hcur5
        have hbf5 := (Hbf.out.below ((Below.refl _ _).alloc (Nat.le_refl _) (Obj.cells #[.int .u8 x] 5))).grew hb5 hg5 hc5'
        obtain ⟨A5, c5', rfl⟩ := hb5.slice
        have Hbf5 := Lib.hid hbf5
        have hbs5 : base ≤ w5.heap.size := by have := hbf5.gr.size; omega
        clear hb5 hg5 hc5' q0 q1 hb8'
        obtain ⟨x0, x1, x2, x3, xz⟩ := four_cells_ hbf5.hs
        obtain ⟨a0, a1, a2, a3, a4, az⟩ := cells_of_arr hbf5.hm
        have hlV1 := blk_lt hbf5.hs
        have hlV5 := blk_lt hbf5.hm
        clear hbf5
        by_cases hn : s.n = 0
        · have e0 : (s.n != 0) = false := by simp [hn]
          have hfin := Lib.hid (HR.out w5 _ Hbf5.out.gr (by
            have h := Hbf5.out.buf
            rw [HC0.out, Hpre.out] at h
            unfold macB
            rw [← Hs.out, if_pos hn, List.append_nil]
            rw [HC0.out, Hpre.out]
            simpa using h) Hbf5.out.came)
          clear hn
          go_wp2
          exact hfin.out
        · have e0 : (s.n != 0) = true := by simp [hn]
          have hfl := foldN_lt Hg.out.num.1 Hg.out.num.2
          have Hn := Lib.hid hn
          clear hn
          go_wp2_with fail
          refine Fold_calls m.n _ Hg.out.num _ ?_
          go_wp2_with fail
          refine bNumber_calls _ cur5 (foldN m.n) base _ Hbf5.out.buf hfl (by omega) hbs5 _ (fun w8 v8 hg8 hb8 hc8 => ?_)
          have hbf8 := Hbf5.out.grew hb8 hg8 hc8
          have hfin := Lib.hid (HR.out w8 v8 hbf8.gr (by
            have h := hb8
            rw [HC0.out, Hpre.out] at h
            unfold macB
            rw [← Hs.out, if_neg Hn.out]
            simpa using h) hbf8.came)
          clear hg8 hb8 hc8 hbf8
          go_wp2
          exact hfin.out
      | p :: q :: r, hps, hcur, hc5, hcells, hp3, Hps, Hcur =>
        obtain ⟨hpo, hx0, hx1⟩ := hps p (by simp)
        obtain ⟨hqo, hy0, hy1⟩ := hps q (by simp)
        have q0 := hcells 0 p rfl
        have r0 := hcells 1 q rfl
        rw [Nat.add_zero] at q0
        simp only [ptrM] at q0 r0
        have q1 := cell_reg hbf.hm hpo
        have r1 := cell_reg hbf.hm hqo
        obtain ⟨x, hx⟩ : ∃ x, x = regAt m p := ⟨_, rfl⟩
        obtain ⟨y, hy⟩ : ∃ y, y = regAt m q := ⟨_, rfl⟩
        rw [← hx] at q1 hx0 hx1
        rw [← hy] at r1 hy0 hy1
        have hcur0 : (cur ++ [UInt8.ofNat (16 * x + y).toNat]) ++ regsB (r.map (regAt m)) = pre ++ regsB (regsOf m) := by
          have h := Hcur.out
          rw [← h, List.map_cons, List.map_cons, ← hx, ← hy, List.append_assoc]
          rfl
        have HC0 := Lib.hid hcur0
        have hor : bits .or .i64 (x * 16) y = 16 * x + y := by
          rw [Int.mul_comm x 16]
          obtain ⟨a, ha⟩ : ∃ a : Nat, x = (a : Int) := ⟨x.toNat, by omega⟩
          obtain ⟨b, hb⟩ : ∃ b : Nat, y = (b : Int) := ⟨y.toNat, by omega⟩
          rw [ha, hb]
          exact or_nib a (by omega) b (by omega)
        have hb8' : IntKind.u8.wrap (16 * x + y) = 16 * x + y := by rw [IntKind.wrap_u8]; omega
        have Hby1 := Lib.hid (byte_of_ (x := 16 * x + y) (by omega) (by omega))
        have HBa := Lib.hid (hbf.buf.alloc (Obj.cells #[.int .u8 (16 * x + y)] 5))
        have hbs2 : base ≤ wr.heap.size + 1 := by omega
        have hlen2 : (2 : Int) ≤ (c5 : Int) := by simp at hc5; omega
        have hGlt := blk_lt hG
        have hnG : Hid (Value.ownBlock (.slice A4 cur.length c4) ≠ some G) := Lib.hid fun e => by
          obtain ⟨cc, fr, hc⟩ := hbf.buf.type e
          rw [hG] at hc
          injection hc with hc
          injection hc with _ hc
          simp at hc
        have hnV : Hid (Value.ownBlock (.slice A4 cur.length c4) ≠ some w.heap.size) := Lib.hid fun e => by
          obtain ⟨cc, fr, hc⟩ := hbf.buf.type e
          rw [hbf.hm] at hc
          injection hc with hc
          injection hc with _ hc
          simp at hc
        have Hps2 : Hid (∀ p ∈ r, (p = 1 ∨ p = 2 ∨ p = 3) ∧ 0 ≤ regAt m p ∧ regAt m p ≤ 15) := Lib.hid fun p hp => hps p (by simp [hp])
        have HGk : Hid (∀ W : World, W.heap[G]? = wr.heap[G]? → PL W w.heap.size r (.slice (some ⟨G, off + 2, none⟩) r.length (c5 - 2))) := Lib.hid fun W h =>
          .inr ⟨G, off + 2, c5 - 2, gc, rfl, by simp at hc5; omega, h.trans hG, fun k x hx => by
            have := hcells (k + 2) x (by simpa using hx)
            rw [World.cell?_of_block h, show off + 2 + k = off + (k + 2) from by omega]
            exact this⟩
        have HSS : Hid (∀ W : World, W.heap[G]? = wr.heap[G]? → W.heap[w.heap.size]? = wr.heap[w.heap.size]? → (fun W : World => W.cell? ⟨G, off, none⟩ = some (.pointer (some ⟨w.heap.size, p, none⟩)) ∧ W.cell? ⟨G, off + 1, none⟩ = some (.pointer (some ⟨w.heap.size, q, none⟩)) ∧ W.cell? ⟨w.heap.size, p, none⟩ = some (.int .i64 x) ∧ W.cell? ⟨w.heap.size, q, none⟩ = some (.int .i64 y)) W) := Lib.hid fun W h1 h2 =>
          ⟨(World.cell?_of_block h1).trans q0, (World.cell?_of_block h1).trans r0, (World.cell?_of_block h2).trans q1, (World.cell?_of_block h2).trans r1⟩
        have hS0 := HSS.out wr rfl rfl
        have hS1 := HSS.out wr.drew rfl rfl
        have hS2 := HSS.out (wr.alloc (Obj.cells #[.int .u8 (16 * x + y)] 5)) (Below.heap_alloc _ _ _ hGlt) (Below.heap_alloc _ _ _ hlVr)
        have hS3 := HSS.out (wr.alloc (Obj.cells #[.int .u8 (16 * x + y)] 5)).drew (Below.heap_alloc _ _ _ hGlt) (Below.heap_alloc _ _ _ hlVr)
        have hS4 := HSS.out (wr.drew.alloc (Obj.cells #[.int .u8 (16 * x + y)] 5)) (Below.heap_alloc _ _ _ hGlt) (Below.heap_alloc _ _ _ hlVr)
        have HBd := Lib.hid (hbf.buf.alloc (Obj.cells #[.int .u8 (16 * x + y)] 5))
        have HBe := Lib.hid ((hbf.buf.alloc (Obj.cells #[.int .u8 (16 * x + y)] 5)).below ((Below.refl _ _).drew) (Nat.le_refl _))
        have hz16 : IntKind.i64.wrap (x * 16) = x * 16 := IntWalk.i64_in _ (by omega)
        obtain ⟨L, hL⟩ : ∃ L, L = (p :: q :: r).length := ⟨_, rfl⟩
        have hL2 : L = r.length + 2 := by rw [hL]; rfl
        have l0 : (0 : Int) < (L : Int) := by omega
        have l1 : (1 : Int) < (L : Int) := by omega
        have l2 : (2 : Int) ≤ (L : Int) := by omega
        have l3 : ((L : Int) == 1) = false := by simp; omega
        have l4 : L - 2 = r.length := by omega
        have HL4 := Lib.hid l4
        have HL2 := Lib.hid hL2
        rw [← hL]
        clear hL hL2 l4
        clear hcells hx hy hcur0 hps hpo hqo hbf q0 q1 r0 r1
        go_upto_region 7 with fail
        go_region_held3 (fun W : World => W.cell? ⟨G, off, none⟩ = some (.pointer (some ⟨w.heap.size, p, none⟩)) ∧ W.cell? ⟨G, off + 1, none⟩ = some (.pointer (some ⟨w.heap.size, q, none⟩)) ∧ W.cell? ⟨w.heap.size, p, none⟩ = some (.int .i64 x) ∧ W.cell? ⟨w.heap.size, q, none⟩ = some (.int .i64 y)) (first | with_reducible exact hS0 | with_reducible exact hS1 | with_reducible exact hS2 | with_reducible exact hS3 | with_reducible exact hS4 | with_reducible exact hS5) (first
          | (refine step_app_buf _ rfl (.tmp 37) (.tmp 51) _ rfl Tryz.underlying25 (v := .slice A4 cur.length c4) (u := .slice (some ⟨wr.heap.size, 0, none⟩) 1 1) (bs := cur) (cs := [UInt8.ofNat (16 * x + y).toNat]) (by simp [Act.eval, Act.put]) (by first | exact HBd.out | exact HBe.out) (by simp [Act.eval, Act.put]) (by first | exact one_src Hby1.out | exact (one_src Hby1.out).below (Below.refl _ _).drew) (by simp; omega) (by first | (simp; omega) | (show base ≤ (wr.alloc _).heap.size; simp; omega)) ?_; intro v5 w5 hb5 hg5' hc5'; have hg5 : Grew (fun k => Value.ownBlock (.slice A4 cur.length c4) = some k) (wr.alloc (Obj.cells #[.int .u8 (16 * x + y)] 5)) w5 := (by first | exact hg5' | exact Grew.of_drew_ hg5'); have hc5 : Came (wr.alloc (Obj.cells #[.int .u8 (16 * x + y)] 5)) (.slice A4 cur.length c4) v5 := (hc5'); have hG5 : w5.heap[G]? = wr.heap[G]? := (hg5.block G (by simp; omega) hnG.out).trans (Below.heap_alloc _ _ _ hGlt); have hV5 : w5.heap[w.heap.size]? = wr.heap[w.heap.size]? := (hg5.block w.heap.size (by simp; omega) hnV.out).trans (Below.heap_alloc _ _ _ hlVr); have hS5 := HSS.out w5 hG5 hV5; have hpl5 := Lib.hid (HGk.out w5 hG5); have hbf5 := Lib.hid ((Hbf.out.below ((Below.refl _ _).alloc (Nat.le_refl _) (Obj.cells #[.int .u8 (16 * x + y)] 5))).grew hb5 hg5 hc5); clear hb5 hg5 hc5 hg5' hc5'))
        all_goals
          have hp3' : r.length + 2 ≤ 3 := by simpa using hp3
          have hcl' : (cur ++ [UInt8.ofNat (16 * x + y).toNat]).length ≤ 1000000010 := by
            have h := congrArg List.length HC0.out
            have h2 := regsB_len (regsOf m)
            have h3 := regsOf_len m
            have h4 : pre.length = bs.length + 1 := by rw [Hpre.out]; simp
            simp only [List.length_append, List.length_singleton, h4] at h ⊢
            omega
          have hrc : r.length + 2 ≤ c5 := by simpa using hc5
          have Hnil : Hid (c5 = 2 → r = []) := Lib.hid fun e => List.eq_nil_of_length_eq_zero (by omega)
          go_wp2
          all_goals
            go_roundg r.length
            case measure => (have := HL2.out; first | omega | (simp; omega))
            case rel =>
              refine ⟨r, _, rfl, by omega, hcl', Hps2.out, ?_, hbf5.out, HC0.out⟩
              rw [HL4.out]
              first
                | exact hpl5.out
                | exact .inl ⟨Hnil.out (by omega), _, _, by rw [Hnil.out (by omega)]; rfl⟩

theorem codeB_lenO (l : List Mac) : (codeB l).length ≤ 14 * l.length := by
  induction l with
  | nil => simp [codeB]
  | cons m l ih =>
    have := macB_len m
    unfold codeB at *
    rw [List.flatMap_cons, List.length_append, List.length_cons]
    omega
theorem codeB_stepO {l : List Mac} {k : Nat} {m : Mac} (h : l[k]? = some m) : codeB (l.take (k + 1)) = codeB (l.take k) ++ macB m := by
  obtain ⟨hk, e⟩ := List.getElem?_eq_some_iff.1 h
  unfold codeB
  rw [List.take_succ_eq_append_getElem hk, e, List.flatMap_append]
  simp

set_option maxRecDepth 100000 in
set_option maxHeartbeats 4000000 in
theorem OfB_calls (l : List Mac) (v : Value) (w : World) (h : rpMac.SL w w.heap.size l v) (hg : ∀ m ∈ l, GoodMac m) (hlen : l.length ≤ 100000) (hS : Shapes w) (R : Ending → World → Prop)
    (hR : ∀ w' v', Below w.heap.size w w' → Buf w' w.heap.size v' (codeB l) → R (.returned v') w') :
    Calls Tryz.prog 51 #[v] w R := by
  have h0 := hS.1
  obtain ⟨A, c, rfl, hm, hcap, h⟩ := h.cases_
  have HR := Lib.hid hR
  have H := Lib.hid h
  have Hg := Lib.hid hg
  have HSh := Lib.hid hS
  clear hR h hg hS
  go_enter Tryz.func51, Tryz.ntmps51
  go_wp2_with fail
  go_loopg [3, 5, 8] l.length (fun gh s3 s5 s8 wr => ∃ k : Nat, k ≤ l.length ∧ gh = l.length - k ∧ s8 = .int .i64 (k : Int) ∧ Buf wr w.heap.size s3 (codeB (l.take k)) ∧ Below w.heap.size w wr)
  case atStart => exact ⟨0, Nat.zero_le _, rfl, rfl, .inl (World.ownsRow_nil _ _ _ _), Below.refl _ _⟩
  case round =>
    obtain ⟨k, hk, rfl, rfl, hbuf, hbel⟩ := hrel
    obtain ⟨A3, c3, rfl⟩ := hbuf.slice
    have Hbuf := Lib.hid hbuf
    have Hbel := Lib.hid hbel
    have hcl := codeB_lenO (l.take k)
    rw [List.length_take] at hcl
    have hz := hbel.size
    have i1 : (0 : Int) ≤ (k : Int) := Int.natCast_nonneg _
    by_cases hlt : k < l.length
    · obtain ⟨b, off, cs, rfl, hb, hr, hcs⟩ := H.out.at_ (List.getElem?_eq_getElem hlt)
      have e : l[k]? = some l[k] := List.getElem?_eq_getElem hlt
      have hmg := Hg.out _ (List.getElem_mem hlt)
      have hst := Lib.hid (codeB_stepO e)
      generalize l[k] = m at *
      rw [rpMac_rep] at hr
      subst hr
      have p0 := (hbel.cell (p := ⟨b, off + k * 5, none⟩) hb).trans (hcs 0 _ rfl)
      have p1 := (hbel.cell (p := ⟨b, off + k * 5 + 1, none⟩) hb).trans (hcs 1 _ rfl)
      have p2 := (hbel.cell (p := ⟨b, off + k * 5 + 2, none⟩) hb).trans (hcs 2 _ rfl)
      have p3 := (hbel.cell (p := ⟨b, off + k * 5 + 3, none⟩) hb).trans (hcs 3 _ rfl)
      have p4 := (hbel.cell (p := ⟨b, off + k * 5 + 4, none⟩) hb).trans (hcs 4 _ rfl)
      have i2 : (k : Int) < (l.length : Int) := by omega
      obtain ⟨W5, hW5⟩ : ∃ W5, W5 = wr.alloc (Obj.cells #[.int .i64 m.op, .int .i64 m.dst, .int .i64 m.a, .int .i64 m.b, .int .i64 m.n] 54) := ⟨_, rfl⟩
      have hb5 : Below wr.heap.size wr W5 := by subst hW5; exact bl0
      have hV5 : W5.heap[wr.heap.size]? = some (.cells m.arr 54 (0, 0)) := by subst hW5; exact heap_alloc_new _ _
      have HW5 := Lib.hid hW5.symm
      have Hbuf5 := Lib.hid (hbuf.below hb5 (Nat.le_refl _))
      have Hb5 := Lib.hid (hbel.trans (hb5.mono hz))
      have Hmg := Lib.hid hmg
      obtain ⟨a0, a1, a2, a3, a4, az⟩ := cells_of_arr hV5
      have hlV := blk_lt hV5
      clear hcs e hbel hbuf hW5 hb5 hV5 hmg
      go_upto_region 5 with fail
      rw [HW5.out]
      clear p0 p1 p2 p3 p4
      go_wp2_with fail
      refine bcode_calls m Hmg.out _ (codeB (l.take k)) w.heap.size _ Hbuf5.out (by omega) (by have := Hb5.out.size; omega) (HSh.out.up Hb5.out h0) _ (fun w6 v6 hg6 hb6 hc6 => ?_)
      have hb66 := Hb5.out.trans (hg6.below (B := w.heap.size) (fun j hj e => by have := (Hbuf5.out.lt j e).1; omega) Hb5.out.size)
      have Hb6 := Lib.hid hb6
      have Hb66 := Lib.hid hb66
      clear hg6 hb6 hc6 hb66 a0 a1 a2 a3 a4 az
      go_wp2
      go_roundg (l.length - (k + 1))
      case measure => omega
      case rel => exact ⟨k + 1, hlt, rfl, by go_num, by rw [hst.out]; exact Hb6.out, Hb66.out⟩
    · obtain rfl : k = l.length := by omega
      have hfin := Lib.hid (HR.out _ (.slice A3 (codeB (l.take l.length)).length c3) Hbel.out (by have := Hbuf.out; rw [List.take_length] at this ⊢; exact this))
      clear hbuf hbel
      go_wp2
      exact hfin.out
end Go.Proofs.YtcakodemngchpaaGreatDoor

/- Routines and images as they lie in memory. -/
namespace Go.Proofs.YtcakodemngchpaaGreatDoor
open Go.RowKit
set_option linter.unusedSimpArgs false
set_option linter.unusedVariables false

def rpRoutine : Rp Routine := (rpStr.pair rpByte.slice).as_ fun r => (r.name, r.code)
theorem rpRoutine_rep {w : World} {B : Nat} {s : Routine} {cs : List Value} (h : rpRoutine.rep w B s cs) : ∃ v1, cs = [.string s.name, v1] ∧ rpByte.SL w B s.code v1 := by
  obtain ⟨c1, c2, rfl, rfl, v1, rfl, h1⟩ := h
  exact ⟨v1, rfl, h1⟩
theorem rpRoutine_mk {w : World} {B : Nat} {s : Routine} {v1 : Value} (h1 : rpByte.SL w B s.code v1) : rpRoutine.rep w B s [.string s.name, v1] :=
  ⟨[.string s.name], [v1], rfl, rfl, v1, rfl, h1⟩
theorem Rp.SL.routine_at {w : World} {B : Nat} {xs : List Routine} {A : Option Addr} {n c k : Nat} (h : rpRoutine.SL w B xs (.slice A n c)) (hk : k < xs.length) : ∃ b off s v1, A = some ⟨b, off, none⟩ ∧ b < B ∧ xs[k]? = some s ∧ rpByte.SL w B s.code v1 ∧
    w.cell? ⟨b, off + k * 2, none⟩ = some (.string s.name) ∧ w.cell? ⟨b, off + k * 2 + 1, none⟩ = some v1 := by
  obtain ⟨b, off, cs, hA, hb, hr, hcs⟩ := h.at_ (List.getElem?_eq_getElem hk)
  obtain ⟨v1, rfl, h1⟩ := rpRoutine_rep hr
  exact ⟨b, off, xs[k], v1, hA, hb, List.getElem?_eq_getElem hk, h1, hcs 0 _ rfl, hcs 1 _ rfl⟩
theorem info_Routine : (Tryz.prog.info? 78).map (fun i => (i.zero, i.size, i.bytes)) = some (some (.agg #[.string ByteArray.empty, .slice none 0 0]), 2, 40) := by kernel_rfl
theorem res_ImgF {fn : Func} {p q : Tmp} (h : fn.results = #[.cell p 43, .cell q 27]) {tmps : Array Value} {b b' : Nat} {w : World} {x y c a : Value} {T T' : TypeId} (hp : tmps.getD p undef = .pointer (some ⟨b, 0, none⟩)) (hq : tmps.getD q undef = .pointer (some ⟨b', 0, none⟩))
    (hc : w.heap[b]? = some (.cells #[x, y] T (0, 0))) (hf : w.heap[b']? = some (.cells #[c, a] T' (0, 0))) : (results fn tmps).run Tryz.prog w = .ok (.tuple #[.agg #[x, y], .agg #[c, a]]) w := by
  rw [Array.getD_eq_getD_getElem?] at hp hq
  have h1 := cells_of_block hc
  have h2 := cells_of_block hf
  simp [results, h, hp, hq, go_sem, h1.1, h1.2.1, h2.1, h2.2.1]
/-- Sections of objects that link are fine, each by itself. -/
theorem fine_secs {l : List Object} (h : (linkF l).1 = 0) : ∀ s ∈ allS l, secF s = 0 := fun s hs => by
  obtain ⟨_, _, h2, h3⟩ := linkF_ok h
  obtain ⟨o, ho, hs⟩ := List.mem_flatMap.1 hs
  obtain ⟨k, hk, e⟩ := List.mem_iff_getElem.1 hs
  obtain ⟨k', hk', e'⟩ := List.mem_iff_getElem.1 ho
  exact ((h3 k' o (by rw [List.getElem?_eq_getElem hk', e'])).ok.secs k s (by rw [List.getElem?_eq_getElem hk, e])).fine
/-- The rest of a linking, from the place i on. -/
theorem routsTo_none {S : List Section} {order : List ByteArray} {i : Nat} {nm : ByteArray} {s : Section} {rs : List Routine} {g : Image} (h : order[i]? = some nm) (hs : secFind S nm = some s) (hr : routB order s = none) :
    routsTo S order (order.length - i) i rs g = (⟨[], []⟩, (6, (i : Int))) := by
  have hi := (List.getElem?_eq_some_iff.1 h).1
  obtain ⟨f, hf⟩ : ∃ f, order.length - i = f + 1 := ⟨order.length - i - 1, by omega⟩
  have e : secAt S (order.getD i ByteArray.empty) = s := by unfold secAt; rw [List.getD_eq_getElem?_getD, h, Option.getD_some, hs]; rfl
  rw [hf, routsTo, e, hr]
theorem routsTo_step {S : List Section} {order : List ByteArray} {i : Nat} {nm : ByteArray} {s : Section} {c : List UInt8} {rs : List Routine} {g : Image} (h : order[i]? = some nm) (hs : secFind S nm = some s) (hr : routB order s = some c) :
    routsTo S order (order.length - i) i rs g = routsTo S order (order.length - (i + 1)) (i + 1) (rs ++ [⟨nm, c⟩]) g := by
  have hi := (List.getElem?_eq_some_iff.1 h).1
  obtain ⟨f, hf⟩ : ∃ f, order.length - i = f + 1 := ⟨order.length - i - 1, by omega⟩
  have e : secAt S (order.getD i ByteArray.empty) = s := by unfold secAt; rw [List.getD_eq_getElem?_getD, h, Option.getD_some, hs]; rfl
  rw [hf, routsTo, e, hr, show order.length - (i + 1) = f from by omega]
  simp only []
  rw [List.getD_eq_getElem?_getD, h, Option.getD_some]
theorem routsTo_end {S : List Section} {order : List ByteArray} {rs : List Routine} {g : Image} : routsTo S order (order.length - order.length) order.length rs g = if 40 < rs.length then (⟨[], []⟩, (2, 0)) else (⟨g.globals, rs⟩, (0, 0)) := by
  rw [Nat.sub_self, routsTo]
end Go.Proofs.YtcakodemngchpaaGreatDoor
