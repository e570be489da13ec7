/- The reader's instructions. bytes.Read: instructions out of bytes. -/
import Derived.Test.YtcakodemngchpaaGreatDoorBase
import Derived.Test.YtcakodemngchpaaGreatDoorRows
import Derived.IntWalk
import Derived.Deep.LoopGhost
import Derived.Deep.CutBlock
import Derived.Deep.DeepCutAuto
import Derived.Test.YtcakodemngchpaaGreatDoorReadB
import Derived.Test.YtcakodemngchpaaGreatDoorMacB
import Derived.Test.YtcakodemngchpaaGreatDoorPlainA
/- The reader's instructions. -/
namespace Go.Proofs.YtcakodemngchpaaGreatDoor
open Go.RowKit
set_option linter.unusedSimpArgs false
set_option linter.unusedVariables false

/-- A row of pointers to fields of an instruction in block M, in a block from B on. -/
def PtrRow (w : World) (M B : Nat) (ps : List Nat) (v : Value) : Prop := ∃ G off c, v = .slice (some ⟨G, off, none⟩) ps.length c ∧ ps.length ≤ c ∧ (0 < ps.length → B ≤ G ∧ G < w.heap.size ∧ ∀ k x, ps[k]? = some x → w.cell? ⟨G, off + k, none⟩ = some (ptrM M x))
def PtrV (w : World) (M B : Nat) (ps : List Nat) (v : Value) : Prop := (v = .slice none 0 0 ∧ ps = []) ∨ PtrRow w M B ps v
theorem PtrV.of_own {w : World} {M B : Nat} {ps : List Nat} {v : Value} {e : TypeId} (h : w.ownsRow B e 1 v ps.length (ps.map (ptrM M))) : PtrV w M B ps v := by
  obtain ⟨h1, h2⟩ := h
  rcases h2 with ⟨rfl, hn⟩ | ⟨g, cap, cur, rfl, hB, hh, hnc, hcm, hcs, htk⟩
  · exact .inl ⟨rfl, List.eq_nil_of_length_eq_zero hn⟩
  · refine .inr ⟨g, 0, cap, rfl, hnc, fun hp => ⟨hB, ?_, fun k x hx => ?_⟩⟩
    · rcases Nat.lt_or_ge g w.heap.size with hlt | hge
      · exact hlt
      · rw [Array.getElem?_eq_none hge] at hh
        cases hh
    · have hg : (ps.map (ptrM M))[k]? = some (ptrM M x) := by rw [List.getElem?_map, hx]; rfl
      rw [← htk, List.getElem?_take] at hg
      split at hg
      · rw [Array.getElem?_toList] at hg
        rw [Nat.zero_add]
        simpa [World.cell?, hh] using hg
      · cases hg
theorem cells_of_arr {w : World} {M : Nat} {m : Mac} {T : TypeId} (h : w.heap[M]? = some (.cells m.arr T (0, 0))) : w.cell? ⟨M, 0, none⟩ = some (.int .i64 m.op) ∧ w.cell? ⟨M, 1, none⟩ = some (.int .i64 m.dst) ∧ w.cell? ⟨M, 2, none⟩ = some (.int .i64 m.a) ∧ w.cell? ⟨M, 3, none⟩ = some (.int .i64 m.b) ∧ w.cell? ⟨M, 4, none⟩ = some (.int .i64 m.n) ∧ (∀ j, w.frozen? ⟨M, j, none⟩ = false) := by
  refine ⟨?_, ?_, ?_, ?_, ?_, fun j => ?_⟩ <;> simp [World.cell?, World.frozen?, h, Mac.arr]

theorem Rd.below {w w' : World} {p B : Nat} {bs : List UInt8} {bad : Bool} (h : Rd w p bs bad) (hb : Below B w w') (hp : p < B) : Rd w' p bs bad := by
  have hl := h.lt
  obtain ⟨v, T, h1, h2⟩ := h
  exact ⟨v, T, (hb.block p hp).trans h1, h2.keep fun q hq => hb.cell (by omega)⟩
theorem grown_then_below {w a b : World} {row : Option Nat} (h : w.grownBy a row) (k : Below w.heap.size a b) : w.grownBy b row :=
  ⟨k.os.trans h.os, k.tape.trans h.tape, k.output.trans h.output, Nat.le_trans h.size k.size, fun i hi hne => (k.block i hi).trans (h.block i hi hne)⟩
theorem five {a : World} {b : Nat} {x0 x1 x2 x3 x4 : Value} {T : TypeId} (h : a.heap[b]? = some (.cells #[x0, x1, x2, x3, x4] T (0, 0))) (v0 v1 v2 v3 v4 : Value) :
    (((((a.setCell ⟨b, 0, none⟩ v0).setCell ⟨b, 1, none⟩ v1).setCell ⟨b, 2, none⟩ v2).setCell ⟨b, 3, none⟩ v3).setCell ⟨b, 4, none⟩ v4).heap[b]? = some (.cells #[v0, v1, v2, v3, v4] T (0, 0)) := by
  rw [block_set (block_set (block_set (block_set (block_set h v0) v1) v2) v3) v4]
  rfl
theorem below_six {a : World} {b : Nat} (h : b < a.heap.size) (v0 v1 v2 v3 v4 : Value) (o : Obj) :
    Below b a ((((((a.setCell ⟨b, 0, none⟩ v0).setCell ⟨b, 1, none⟩ v1).setCell ⟨b, 2, none⟩ v2).setCell ⟨b, 3, none⟩ v3).setCell ⟨b, 4, none⟩ v4).alloc o) := by
  have h0 := Below.refl b a
  have h1 := h0.setCell (p := ⟨b, 0, none⟩) (Nat.le_refl b) v0
  have h2 := h1.setCell (p := ⟨b, 1, none⟩) (Nat.le_refl b) v1
  have h3 := h2.setCell (p := ⟨b, 2, none⟩) (Nat.le_refl b) v2
  have h4 := h3.setCell (p := ⟨b, 3, none⟩) (Nat.le_refl b) v3
  have h5 := h4.setCell (p := ⟨b, 4, none⟩) (Nat.le_refl b) v4
  exact h5.alloc (Nat.le_trans (Nat.le_of_lt h) h5.size) o
theorem below_five {a : World} {b : Nat} (v0 v1 v2 v3 v4 : Value) :
    Below b a (((((a.setCell ⟨b, 0, none⟩ v0).setCell ⟨b, 1, none⟩ v1).setCell ⟨b, 2, none⟩ v2).setCell ⟨b, 3, none⟩ v3).setCell ⟨b, 4, none⟩ v4) := by
  have h0 := Below.refl b a
  have h1 := h0.setCell (p := ⟨b, 0, none⟩) (Nat.le_refl b) v0
  have h2 := h1.setCell (p := ⟨b, 1, none⟩) (Nat.le_refl b) v1
  have h3 := h2.setCell (p := ⟨b, 2, none⟩) (Nat.le_refl b) v2
  have h4 := h3.setCell (p := ⟨b, 3, none⟩) (Nat.le_refl b) v3
  exact h4.setCell (p := ⟨b, 4, none⟩) (Nat.le_refl b) v4
theorem res_Mac {fn : Func} {p : Tmp} (h : fn.results = #[.cell p 54]) {tmps : Array Value} {b : Nat} {w : World} {m : Mac} {T : TypeId} (hp : tmps.getD p undef = .pointer (some ⟨b, 0, none⟩))
    (hc : w.heap[b]? = some (.cells m.arr T (0, 0))) : (results fn tmps).run Tryz.prog w = .ok (.agg m.arr) w := by
  rw [Array.getD_eq_getD_getElem?] at hp
  obtain ⟨a0, a1, a2, a3, a4, _⟩ := cells_of_arr hc
  simp [results, h, hp, go_sem, a0, a1, a2, a3, a4, Mac.arr]
theorem Rd.set_bad {w : World} {p : Nat} {bs : List UInt8} {bad : Bool} (h : Rd w p bs bad) (q : Bool) : Rd (w.setCell ⟨p, 1, none⟩ (.bool q)) p bs q := by
  have hl := h.lt
  obtain ⟨v, T, h1, h2⟩ := h
  exact ⟨v, T, by rw [block_set h1]; rfl, SL_grown h2 (grown_setCell w ⟨p, 1, none⟩ _) (by omega)⟩

def tailGo (n : Int) (m : Mac) (bs : List UInt8) : Option (Mac × List UInt8) := if n = 0 then some (m, bs) else (numberL bs).map fun x => (⟨m.op, m.dst, m.a, m.b, unfoldN x.1⟩, x.2)
/-- How the memory stands while an instruction is read. -/
def MidMac (w w2 : World) (M p : Nat) (s : Shape) (m : Mac) (bs : List UInt8) (bad : Bool) (wx : World) : Prop :=
  wx.heap[M]? = some (.cells m.arr 54 (0, 0)) ∧ wx.heap[w.heap.size]? = some (.cells (⟨0, 0, 0, 0, 0⟩ : Mac).arr 54 (0, 0)) ∧ Rd wx p bs bad ∧ w.grownBy wx (some p) ∧ wx.cell? ⟨w2.heap.size, 3, none⟩ = some (.int .i64 s.n) ∧ w2.heap.size < wx.heap.size

theorem MidMac.drew {w w2 : World} {M p : Nat} {s : Shape} {m : Mac} {bs : List UInt8} {bad : Bool} {wx : World} (h : MidMac w w2 M p s m bs bad wx) : MidMac w w2 M p s m bs bad wx.drew := by
  obtain ⟨h1, h3, ⟨v, T, h4, h4'⟩, h5, h6, h7⟩ := h
  exact ⟨h1, h3, ⟨v, T, h4, h4'.keep fun _ _ => rfl⟩, ⟨h5.os, h5.tape, h5.output, h5.size, h5.block⟩, h6, h7⟩
theorem one_step {x : Nat} {m : Mac} {l r : List UInt8} {q q1 bad : Bool} {b : Nat} {n : Int} {T : Option (Mac × List UInt8)} (h : byteS l q = (b, r, q1)) (h0 : q = false → bad = false ∧ ((regsGo [x] m l).bind fun r => tailGo n r.1 r.2) = T) (h1 : q = true → bad = true ∨ T = none) :
    ((q1 || decide (15 < b)) = false → bad = false ∧ tailGo n (m.put x b) r = T) ∧ ((q1 || decide (15 < b)) = true → bad = true ∨ T = none) := by
  cases l with
  | nil =>
    simp only [byteS, Prod.mk.injEq] at h
    obtain ⟨rfl, rfl, rfl⟩ := h
    refine ⟨fun h => Bool.noConfusion h, fun _ => ?_⟩
    cases q
    · exact .inr (h0 rfl).2.symm
    · exact h1 rfl
  | cons c l =>
    simp only [byteS, Prod.mk.injEq] at h
    obtain ⟨rfl, rfl, rfl⟩ := h
    cases q
    · have h2 := h0 rfl
      by_cases h15 : 15 < c.toNat
      · refine ⟨fun h => by simp at h; omega, fun _ => .inr ?_⟩
        rw [← h2.2, regsGo, if_pos h15]
        rfl
      · refine ⟨fun _ => ⟨h2.1, ?_⟩, fun h => by simp at h; omega⟩
        rw [← h2.2, regsGo, if_neg h15]
        rfl
    · exact ⟨fun h => Bool.noConfusion h, fun _ => h1 rfl⟩
theorem two_step {x y : Nat} {t : List Nat} {m : Mac} {l r : List UInt8} {q q1 bad : Bool} {b : Nat} {n : Int} {T : Option (Mac × List UInt8)} (h : byteS l q = (b, r, q1)) (h0 : q = false → bad = false ∧ ((regsGo (x :: y :: t) m l).bind fun r => tailGo n r.1 r.2) = T) (h1 : q = true → bad = true ∨ T = none) :
    (q1 = false → bad = false ∧ ((regsGo t ((m.put x ((b / 16 : Nat) : Int)).put y ((b % 16 : Nat) : Int)) r).bind fun r => tailGo n r.1 r.2) = T) ∧ (q1 = true → bad = true ∨ T = none) := by
  cases l with
  | nil =>
    simp only [byteS, Prod.mk.injEq] at h
    obtain ⟨rfl, rfl, rfl⟩ := h
    refine ⟨fun h => Bool.noConfusion h, fun _ => ?_⟩
    cases q
    · exact .inr (h0 rfl).2.symm
    · exact h1 rfl
  | cons c l =>
    simp only [byteS, Prod.mk.injEq] at h
    obtain ⟨rfl, rfl, rfl⟩ := h
    exact ⟨fun h => ⟨(h0 h).1, (h0 h).2⟩, h1⟩

theorem arr_put1 (m : Mac) (v : Int) : m.arr.setIfInBounds 1 (.int .i64 v) = (m.put 1 v).arr := rfl
theorem arr_put2 (m : Mac) (v : Int) : m.arr.setIfInBounds 2 (.int .i64 v) = (m.put 2 v).arr := rfl
theorem arr_put3 (m : Mac) (v : Int) : m.arr.setIfInBounds 3 (.int .i64 v) = (m.put 3 v).arr := rfl
theorem MidMac.put {w w2 : World} {M p : Nat} {s : Shape} {m : Mac} {bs : List UInt8} {bad : Bool} {wx : World} (h : MidMac w w2 M p s m bs bad wx) (hp : p < w.heap.size) (hM : w.heap.size < M) (h2 : M < w2.heap.size) (x : Nat) (hx : x = 1 ∨ x = 2 ∨ x = 3) (v : Int) :
    MidMac w w2 M p s (m.put x v) bs bad (wx.setCell ⟨M, x, none⟩ (.int .i64 v)) := by
  obtain ⟨h1, h3, h4, h5, h6, h7⟩ := h
  have hb : Below M wx (wx.setCell ⟨M, x, none⟩ (.int .i64 v)) := (Below.refl _ _).setCell (p := ⟨M, x, none⟩) (Nat.le_refl _) _
  refine ⟨?_, (hb.block _ hM).trans h3, h4.below hb (by omega), grown_then_below h5 (hb.mono (by omega)), ?_, by simpa [World.setCell] using h7⟩
  · rw [block_set h1]
    rcases hx with rfl | rfl | rfl
    · rw [arr_put1]
    · rw [arr_put2]
    · rw [arr_put3]
  · exact (World.cell?_of_block ((grown_setCell wx ⟨M, x, none⟩ (.int .i64 v)).block _ h7 (by simp; omega))).trans h6
theorem MidMac.bad {w w2 : World} {M p : Nat} {s : Shape} {m : Mac} {bs : List UInt8} {bad : Bool} {wx : World} (h : MidMac w w2 M p s m bs bad wx) (hp : p < w.heap.size) (hM : w.heap.size < M) (h2 : M < w2.heap.size) (q : Bool) :
    MidMac w w2 M p s m bs q (wx.setCell ⟨p, 1, none⟩ (.bool q)) := by
  obtain ⟨h1, h3, h4, h5, h6, h7⟩ := h
  have hg := grown_setCell wx ⟨p, 1, none⟩ (.bool q)
  exact ⟨(hg.block _ (by omega) (by simp; omega)).trans h1, (hg.block _ (by omega) (by simp; omega)).trans h3, h4.set_bad q, grown_trans h5 hg, (World.cell?_of_block (hg.block _ h7 (by simp; omega))).trans h6, by simpa [World.setCell] using h7⟩
theorem MidMac.read {w w2 : World} {M p : Nat} {s : Shape} {m : Mac} {bs bs' : List UInt8} {bad bad' : Bool} {wx wy : World} (h : MidMac w w2 M p s m bs bad wx) (hp : p < w.heap.size) (hM : w.heap.size < M) (h2 : M < w2.heap.size) (hg : wx.grownBy wy (some p)) (hr : Rd wy p bs' bad') :
    MidMac w w2 M p s m bs' bad' wy := by
  obtain ⟨h1, h3, h4, h5, h6, h7⟩ := h
  exact ⟨(hg.block _ (by omega) (by simp; omega)).trans h1, (hg.block _ (by omega) (by simp; omega)).trans h3, hr, grown_trans h5 hg, (World.cell?_of_block (hg.block _ h7 (by simp; omega))).trans h6, Nat.lt_of_lt_of_le h7 hg.size⟩

set_option maxRecDepth 100000 in
set_option maxHeartbeats 4000000 in
theorem readerMac_calls (p : Nat) (bs : List UInt8) (bad : Bool) (w : World) (h : Rd w p bs bad) (hS : Shapes w) (hp : 0 < p) (R : Ending → World → Prop)
    (hgood : ∀ m r, bad = false → macL bs = some (m, r) → ∀ w', w.grownBy w' (some p) → Rd w' p r false → R (.returned (.agg m.arr)) w')
    (hbad : (bad = true ∨ macL bs = none) → ∀ (w' : World) (m : Mac) r, w.grownBy w' (some p) → Rd w' p r true → R (.returned (.agg m.arr)) w') :
    Calls Tryz.prog 81 #[.pointer (some ⟨p, 0, none⟩)] w R := by
  have Hgood := Lib.hid hgood
  have Hbad := Lib.hid hbad
  have Hrd := Lib.hid h
  have HS := Lib.hid hS
  have hlt := h.lt
  clear hgood hbad h hS
  go_enter Tryz.func81, Tryz.ntmps81
  go_wp2_with fail
  have hg0 : w.grownBy (w.alloc (Obj.cells #[.int .i64 0, .int .i64 0, .int .i64 0, .int .i64 0, .int .i64 0] 54)) (some p) := World.grownBy_alloc _ _ _
  refine Byte_any p bs bad _ (Hrd.out.other ((Below.refl _ _).alloc (Nat.le_refl _) _)) _ (fun x r q1 hbs hx w1 hg1 hr1 => ?_)
  have hz1 : w.heap.size < w1.heap.size := by have := hg1.size; simp at this; omega
  have Hg1 := Lib.hid (grown_trans hg0 hg1)
  have hT : (q1 = false → bad = false ∧ macGo x r = macL bs) ∧ (q1 = true → bad = true ∨ macL bs = none) := by
    cases bs with
    | nil =>
      simp only [byteS, Prod.mk.injEq] at hbs
      obtain ⟨rfl, rfl, rfl⟩ := hbs
      exact ⟨fun h => Bool.noConfusion h, fun _ => .inr rfl⟩
    | cons b l =>
      simp only [byteS, Prod.mk.injEq] at hbs
      obtain ⟨rfl, rfl, rfl⟩ := hbs
      exact ⟨fun h => ⟨h, macGo_eq _ _⟩, .inl⟩
  have HT := Lib.hid hT
  have hS1 : Shapes w1 := HS.out.up (B := p) (grown_below Hg1.out (Nat.le_refl _) (by omega)) hp
  have HS1 := Lib.hid hS1
  -- the cells of the result, of block w.heap.size
  have e0 : w1.heap[w.heap.size]? = some (.cells #[.int .i64 0, .int .i64 0, .int .i64 0, .int .i64 0, .int .i64 0] 54 (0, 0)) := by
    rw [hg1.block _ (by simp) (by intro e; injection e with e; omega)]
    exact heap_alloc_new w _
  have E0 := Lib.hid e0
  have Hr1 := Lib.hid hr1
  have hlp : p < w1.heap.size := by omega
  clear hbs hT hS1 e0 hr1 hg1 hg0
  go_wp2_with fail
  refine Of_calls _ _ (HS1.out.up (B := 1) ((Below.refl _ _).alloc (by omega) _) (by omega)) _ (fun w2 hb2 => ?_)
  obtain ⟨s, hs⟩ : ∃ s, s = shapeOf (x : Int) := ⟨_, rfl⟩
  rw [← hs, show s.val = .agg #[.bool s.d, .bool s.a, .bool s.b, .int .i64 s.n] from rfl]
  have Hs := Lib.hid hs
  clear hs
  have hz2 : w1.heap.size < w2.heap.size := by have := hb2.size; simp at this; omega
  have hb2' : Below w1.heap.size w1 w2 := ((Below.refl _ _).alloc (Nat.le_refl _) _).trans (hb2.mono (by simp))
  have hm2 : w2.heap[w1.heap.size]? = some (.cells (⟨(x : Int), 0, 0, 0, 0⟩ : Mac).arr 54 (0, 0)) := by
    rw [hb2.block _ (by simp)]
    exact heap_alloc_new w1 _
  have he2 : w2.heap[w.heap.size]? = some (.cells (⟨0, 0, 0, 0, 0⟩ : Mac).arr 54 (0, 0)) := (hb2'.block _ hz1).trans E0.out
  have hr2 : Rd w2 p r q1 := Hr1.out.other hb2'
  have Hg2 := Lib.hid (grown_trans Hg1.out (⟨hb2'.os, hb2'.tape, hb2'.output, hb2'.size, fun k hk _ => hb2'.block k hk⟩ : w1.grownBy w2 (some p)))
  obtain ⟨a0, a1, a2, a3, a4, az⟩ := cells_of_arr hm2
  obtain ⟨e0, e1, e2, e3, e4, ez⟩ := cells_of_arr he2
  simp only [] at a0 a1 a2 a3 a4 e0 e1 e2 e3 e4
  obtain ⟨vv, TT, hbk, hss⟩ := id hr2
  obtain ⟨c0, c1, z0, z1⟩ := cells_of_block hbk
  have Hbk := Lib.hid hbk
  have Hss := Lib.hid hss
  have Hr2 := Lib.hid hr2
  have Hm2 := Lib.hid hm2
  have He2 := Lib.hid he2
  have hwz : w.heap.size < w2.heap.size := by omega
  have hpz : p < w2.heap.size := by omega
  clear hbk hss hr2 hm2 he2 hb2 hb2'
  cases hk : known (x : Int)
  · have hno : macGo (x : Int) r = none := by rw [macGo, if_pos hk]
    have Hno := Lib.hid hno
    clear hno hk
    have hrb : Rd (w2.setCell ⟨p, 1, none⟩ (.bool true)) p r true := Hr2.out.set_bad true
    have hgb : w.grownBy (w2.setCell ⟨p, 1, none⟩ (.bool true)) (some p) := grown_trans Hg2.out (grown_setCell w2 ⟨p, 1, none⟩ _)
    have heb : (w2.setCell ⟨p, 1, none⟩ (.bool true)).heap[w.heap.size]? = some (.cells (⟨0, 0, 0, 0, 0⟩ : Mac).arr 54 (0, 0)) := by
      rw [(grown_setCell w2 ⟨p, 1, none⟩ (.bool true)).block _ hwz (by simp; omega)]
      exact He2.out
    have Hrb := Lib.hid hrb
    have Hgb := Lib.hid hgb
    have Heb := Lib.hid heb
    have hc : bad = true ∨ macL bs = none := by
      cases q1
      · exact .inr ((HT.out.1 rfl).2.symm.trans Hno.out)
      · exact HT.out.2 rfl
    have Hc := Lib.hid hc
    clear hrb hgb heb hc
    go_wp2
    have hfin := Lib.hid (five (a := w2.setCell ⟨p, 1, none⟩ (.bool true)) Heb.out (.int .i64 (x : Int)) (.int .i64 0) (.int .i64 0) (.int .i64 0) (.int .i64 0))
    generalize hW : w2.setCell ⟨p, 1, none⟩ (.bool true) = W at *
    have hWz : w.heap.size < W.heap.size := by rw [← hW]; simpa [World.setCell] using hwz
    refine bodyPost_ret (v := .agg (⟨(x : Int), 0, 0, 0, 0⟩ : Mac).arr) (res_Mac (T := 54) (by rfl) (by rfl) ?_) rfl ?_
    · exact (heap_alloc_old _ _ (by simp [World.setCell]; omega)).trans hfin.out
    · refine Hbad.out Hc.out _ _ r (grown_then_below Hgb.out ?_) (Hrb.out.below (B := w.heap.size) ?_ hlt)
      · exact below_six hWz _ _ _ _ _ _
      · exact below_six hWz _ _ _ _ _ _
  · have hgo : macGo (x : Int) r = (regsGo (regOffs s) ⟨(x : Int), 0, 0, 0, 0⟩ r).bind fun r => if s.n = 0 then some r else (numberL r.2).map fun x => (⟨r.1.op, r.1.dst, r.1.a, r.1.b, unfoldN x.1⟩, x.2) := by
      rw [macGo, if_neg (by simp [hk]), ← Hs.out]
    have Hgo := Lib.hid hgo
    have Hregs : Hid (Regs (regOffs s)) := Lib.hid (by rw [Hs.out]; exact regs_of _)
    clear hgo hk
    go_wp2_with fail
    refine registers_calls s w1.heap.size _ (by simp; omega) _ (fun w3 v hb3 hown3 => ?_)
    have hz3 : w2.heap.size < w3.heap.size := by have := hb3.size; simp at this; omega
    have hsn : w3.cell? ⟨w2.heap.size, 3, none⟩ = some (.int .i64 s.n) := by rw [hb3.cell (by simp)]; simp
    have hb23 : Below w2.heap.size w2 w3 := ((Below.refl _ _).alloc (Nat.le_refl _) _).trans (hb3.mono (by simp))
    have hm3 : w3.heap[w1.heap.size]? = some (.cells (⟨(x : Int), 0, 0, 0, 0⟩ : Mac).arr 54 (0, 0)) := (hb23.block _ (by omega)).trans Hm2.out
    have he3 : w3.heap[w.heap.size]? = some (.cells (⟨0, 0, 0, 0, 0⟩ : Mac).arr 54 (0, 0)) := (hb23.block _ (by omega)).trans He2.out
    have hr3 : Rd w3 p r q1 := Hr2.out.other hb23
    have Hg3 := Lib.hid (grown_then_below Hg2.out (hb23.mono (by omega)))
    have Hm3 := Lib.hid hm3
    have He3 := Lib.hid he3
    have Hr3 := Lib.hid hr3
    have hpv : PtrV w3 w1.heap.size (w2.heap.size + 1) (regOffs s) v := PtrV.of_own (by simpa using hown3)
    have Hpv := Lib.hid hpv
    clear c0 c1 z0 z1 Hbk Hss Hr2 Hm2 He2 hb23 hm3 he3 hr3 hb3 hown3 hpv a0 a1 a2 a3 a4 e0 e1 e2 e3 e4 az ez
    go_upto_block 0 with fail
    go_cut [] (fun wx => ∃ m bs' bad', MidMac w w2 w1.heap.size p s m bs' bad' wx ∧ (bad' = false → bad = false ∧ tailGo s.n m bs' = macL bs) ∧ (bad' = true → bad = true ∨ macL bs = none))
    case first =>
      go_wp2_with fail
      go_loopg [6, 7] (regOffs s).length (fun g l b wr => ∃ ps m bs' bad', Regs ps ∧ g = ps.length ∧ PtrV wr w1.heap.size (w2.heap.size + 1) ps l ∧ MidMac w w2 w1.heap.size p s m bs' bad' wr ∧ (bad' = false → bad = false ∧ ((regsGo ps m bs').bind fun r => tailGo s.n r.1 r.2) = macL bs) ∧ (bad' = true → bad = true ∨ macL bs = none))
      case atStart =>
        refine ⟨regOffs s, ⟨(x : Int), 0, 0, 0, 0⟩, r, q1, Hregs.out, rfl, Hpv.out, ⟨Hm3.out, He3.out, Hr3.out, Hg3.out, hsn, hz3⟩, fun h => ⟨(HT.out.1 h).1, ?_⟩, HT.out.2⟩
        rw [← (HT.out.1 h).2, Hgo.out]
        rfl
      case round =>
        obtain ⟨ps, m, bs', bad', hps, rfl, hl, hmid, hq0, hq1⟩ := hrel
        have hz := hmid.2.2.2.2.2
        have Hq0 := Lib.hid hq0
        have Hq1 := Lib.hid hq1
        have Hmid := Lib.hid hmid
        have Hl := Lib.hid hl
        have hw1 : w.heap.size < w1.heap.size := hz1
        clear hq0 hq1 hmid hl Hm3 He3 Hr3 Hpv Hg3 Hg2
        rcases hps with rfl | rfl | rfl | rfl | rfl | rfl | rfl
        · rcases Hl.out with ⟨rfl, _⟩ | ⟨G, off, c, rfl, _, _⟩
          · go_wp2
            go_meet
            exact ⟨m, bs', bad', Hmid.out, Hq0.out, Hq1.out⟩
          · simp only [List.length_nil] at *
            go_wp2
            go_meet
            exact ⟨m, bs', bad', Hmid.out, Hq0.out, Hq1.out⟩
        · obtain ⟨G, off, c, rfl, hc1, hP⟩ := Hl.out.resolve_left (by rintro ⟨_, h⟩; cases h)
          obtain ⟨hG1, hG2, hG3⟩ := hP (by simp)
          have hG := hG3 0 1 rfl
          simp only [Nat.add_zero, ptrM, List.length_singleton] at hG hc1
          have i1 : (1 : Int) ≤ (c : Int) := by omega
          go_wp2_with fail
          refine Byte_any p bs' bad' _ Hmid.out.2.2.1 _ (fun b r' q' hbs hb w4 hg4 hr4 => ?_)
          obtain ⟨s0, s1⟩ := one_step hbs Hq0.out Hq1.out
          have hG4 : w4.cell? ⟨G, off, none⟩ = some (.pointer (some ⟨w1.heap.size, 1, none⟩)) := (World.cell?_of_block (hg4.block _ hG2 (by simp; omega))).trans hG
          have hz4 := hg4.size
          have hmid4 := Hmid.out.read hlt hw1 hz2 hg4 hr4
          obtain ⟨vv, TT, hbk, _⟩ := id hr4
          obtain ⟨c0, c1, y0, y1⟩ := cells_of_block hbk
          obtain ⟨a0, a1, a2, a3, a4, az⟩ := cells_of_arr hmid4.1
          have Hmid4 := Lib.hid hmid4
          have hpM : p < w1.heap.size := by omega
          have hGM : w1.heap.size < G := by omega
          clear hbs hmid4 hbk hr4 hg4 hG hG3 hP
          cases q'
          · have S0 : Hid (decide ((15 : Int) < (b : Int)) = false → bad = false ∧ tailGo s.n (m.put 1 b) r' = macL bs) := Lib.hid fun h => s0 (by simp at h ⊢; omega)
            have S1 : Hid (decide ((15 : Int) < (b : Int)) = true → bad = true ∨ macL bs = none) := Lib.hid fun h => s1 (by simp at h ⊢; omega)
            clear s0 s1
            go_wp2
            go_meet
            exact ⟨m.put 1 b, r', _, (Hmid4.out.put hlt hw1 hz2 1 (by simp) b).bad hlt hw1 hz2 (decide ((15 : Int) < (b : Int))), S0.out, S1.out⟩
          · have S1 := Lib.hid (s1 rfl)
            clear s0 s1
            go_wp2
            go_meet
            exact ⟨m.put 1 b, r', true, (Hmid4.out.put hlt hw1 hz2 1 (by simp) b).bad hlt hw1 hz2 true, fun h => Bool.noConfusion h, fun _ => S1.out⟩
        · obtain ⟨G, off, c, rfl, hc1, hP⟩ := Hl.out.resolve_left (by rintro ⟨_, h⟩; cases h)
          obtain ⟨hG1, hG2, hG3⟩ := hP (by simp)
          have hG := hG3 0 2 rfl
          simp only [Nat.add_zero, ptrM, List.length_singleton] at hG hc1
          have i1 : (1 : Int) ≤ (c : Int) := by omega
          go_wp2_with fail
          refine Byte_any p bs' bad' _ Hmid.out.2.2.1 _ (fun b r' q' hbs hb w4 hg4 hr4 => ?_)
          obtain ⟨s0, s1⟩ := one_step hbs Hq0.out Hq1.out
          have hG4 : w4.cell? ⟨G, off, none⟩ = some (.pointer (some ⟨w1.heap.size, 2, none⟩)) := (World.cell?_of_block (hg4.block _ hG2 (by simp; omega))).trans hG
          have hz4 := hg4.size
          have hmid4 := Hmid.out.read hlt hw1 hz2 hg4 hr4
          obtain ⟨vv, TT, hbk, _⟩ := id hr4
          obtain ⟨c0, c1, y0, y1⟩ := cells_of_block hbk
          obtain ⟨a0, a1, a2, a3, a4, az⟩ := cells_of_arr hmid4.1
          have Hmid4 := Lib.hid hmid4
          have hpM : p < w1.heap.size := by omega
          have hGM : w1.heap.size < G := by omega
          clear hbs hmid4 hbk hr4 hg4 hG hG3 hP
          cases q'
          · have S0 : Hid (decide ((15 : Int) < (b : Int)) = false → bad = false ∧ tailGo s.n (m.put 2 b) r' = macL bs) := Lib.hid fun h => s0 (by simp at h ⊢; omega)
            have S1 : Hid (decide ((15 : Int) < (b : Int)) = true → bad = true ∨ macL bs = none) := Lib.hid fun h => s1 (by simp at h ⊢; omega)
            clear s0 s1
            go_wp2
            go_meet
            exact ⟨m.put 2 b, r', _, (Hmid4.out.put hlt hw1 hz2 2 (by simp) b).bad hlt hw1 hz2 (decide ((15 : Int) < (b : Int))), S0.out, S1.out⟩
          · have S1 := Lib.hid (s1 rfl)
            clear s0 s1
            go_wp2
            go_meet
            exact ⟨m.put 2 b, r', true, (Hmid4.out.put hlt hw1 hz2 2 (by simp) b).bad hlt hw1 hz2 true, fun h => Bool.noConfusion h, fun _ => S1.out⟩
        · obtain ⟨G, off, c, rfl, hc1, hP⟩ := Hl.out.resolve_left (by rintro ⟨_, h⟩; cases h)
          obtain ⟨hG1, hG2, hG3⟩ := hP (by simp)
          have hG := hG3 0 3 rfl
          simp only [Nat.add_zero, ptrM, List.length_singleton] at hG hc1
          have i1 : (1 : Int) ≤ (c : Int) := by omega
          go_wp2_with fail
          refine Byte_any p bs' bad' _ Hmid.out.2.2.1 _ (fun b r' q' hbs hb w4 hg4 hr4 => ?_)
          obtain ⟨s0, s1⟩ := one_step hbs Hq0.out Hq1.out
          have hG4 : w4.cell? ⟨G, off, none⟩ = some (.pointer (some ⟨w1.heap.size, 3, none⟩)) := (World.cell?_of_block (hg4.block _ hG2 (by simp; omega))).trans hG
          have hz4 := hg4.size
          have hmid4 := Hmid.out.read hlt hw1 hz2 hg4 hr4
          obtain ⟨vv, TT, hbk, _⟩ := id hr4
          obtain ⟨c0, c1, y0, y1⟩ := cells_of_block hbk
          obtain ⟨a0, a1, a2, a3, a4, az⟩ := cells_of_arr hmid4.1
          have Hmid4 := Lib.hid hmid4
          have hpM : p < w1.heap.size := by omega
          have hGM : w1.heap.size < G := by omega
          clear hbs hmid4 hbk hr4 hg4 hG hG3 hP
          cases q'
          · have S0 : Hid (decide ((15 : Int) < (b : Int)) = false → bad = false ∧ tailGo s.n (m.put 3 b) r' = macL bs) := Lib.hid fun h => s0 (by simp at h ⊢; omega)
            have S1 : Hid (decide ((15 : Int) < (b : Int)) = true → bad = true ∨ macL bs = none) := Lib.hid fun h => s1 (by simp at h ⊢; omega)
            clear s0 s1
            go_wp2
            go_meet
            exact ⟨m.put 3 b, r', _, (Hmid4.out.put hlt hw1 hz2 3 (by simp) b).bad hlt hw1 hz2 (decide ((15 : Int) < (b : Int))), S0.out, S1.out⟩
          · have S1 := Lib.hid (s1 rfl)
            clear s0 s1
            go_wp2
            go_meet
            exact ⟨m.put 3 b, r', true, (Hmid4.out.put hlt hw1 hz2 3 (by simp) b).bad hlt hw1 hz2 true, fun h => Bool.noConfusion h, fun _ => S1.out⟩
        · obtain ⟨G, off, c, rfl, hc1, hP⟩ := Hl.out.resolve_left (by rintro ⟨_, h⟩; cases h)
          obtain ⟨hG1, hG2, hG3⟩ := hP (by simp)
          have hGa := hG3 0 1 rfl
          have hGb := hG3 1 2 rfl
          simp only [Nat.add_zero, ptrM, List.length_cons, List.length_nil, Nat.zero_add, Nat.reduceAdd] at hGa hGb hc1
          have i1 : (2 : Int) ≤ (c : Int) := by omega
          go_wp2_with fail
          refine Byte_any p bs' bad' _ Hmid.out.2.2.1 _ (fun b r' q' hbs hb w4 hg4 hr4 => ?_)
          obtain ⟨s0, s1⟩ := two_step hbs Hq0.out Hq1.out
          have S0 := Lib.hid s0
          have S1 := Lib.hid s1
          have hGa4 : w4.cell? ⟨G, off, none⟩ = some (.pointer (some ⟨w1.heap.size, 1, none⟩)) := (World.cell?_of_block (hg4.block _ hG2 (by simp; omega))).trans hGa
          have hGb4 : w4.cell? ⟨G, off + 1, none⟩ = some (.pointer (some ⟨w1.heap.size, 2, none⟩)) := (World.cell?_of_block (hg4.block _ hG2 (by simp; omega))).trans hGb
          have hz4 := hg4.size
          have hmid4 := Hmid.out.read hlt hw1 hz2 hg4 hr4
          obtain ⟨a0, a1, a2, a3, a4, az⟩ := cells_of_arr hmid4.1
          have Hmid4 := Lib.hid hmid4
          have hpM : p < w1.heap.size := by omega
          have hGM : w1.heap.size < G := by omega
          have hm := bits_mask .i64 63 (by decide) (fun n h0 h1 => by rw [IntKind.wrap_i64]; omega) 4 (by decide) (b : Int) (by omega) (by omega)
          have hm' : bits .and .i64 (b : Int) 15 = ((b % 16 : Nat) : Int) := by simpa using hm
          have hb0 : (0 : Int) ≤ (b : Int) := Int.natCast_nonneg _
          have hb1 : (b : Int) < 256 := by omega
          clear hbs s0 s1 hmid4 hr4 hg4 hGa hGb hG3 hP hm
          have Hmid5 : Hid (MidMac w w2 w1.heap.size p s ((m.put 1 ((b / 16 : Nat) : Int)).put 2 ((b % 16 : Nat) : Int)) r' q' ((w4.setCell ⟨w1.heap.size, 1, none⟩ (.int .i64 ((b : Int) / 16))).setCell ⟨w1.heap.size, 2, none⟩ (.int .i64 ((b : Int) % 16))).drew) := Lib.hid ((Hmid4.out.put hlt hw1 hz2 1 (by simp) ((b / 16 : Nat) : Int)).put hlt hw1 hz2 2 (by simp) ((b % 16 : Nat) : Int)).drew
          go_wp2
          go_region
          go_wp2
          all_goals
            go_roundg 0
            case measure => omega
            case rel => exact ⟨[], _, r', q', .inl rfl, rfl, .inr ⟨G, _, _, rfl, Nat.zero_le _, fun h => absurd h (Nat.lt_irrefl 0)⟩, Hmid5.out, S0.out, S1.out⟩
        · obtain ⟨G, off, c, rfl, hc1, hP⟩ := Hl.out.resolve_left (by rintro ⟨_, h⟩; cases h)
          obtain ⟨hG1, hG2, hG3⟩ := hP (by simp)
          have hGa := hG3 0 2 rfl
          have hGb := hG3 1 3 rfl
          simp only [Nat.add_zero, ptrM, List.length_cons, List.length_nil, Nat.zero_add, Nat.reduceAdd] at hGa hGb hc1
          have i1 : (2 : Int) ≤ (c : Int) := by omega
          go_wp2_with fail
          refine Byte_any p bs' bad' _ Hmid.out.2.2.1 _ (fun b r' q' hbs hb w4 hg4 hr4 => ?_)
          obtain ⟨s0, s1⟩ := two_step hbs Hq0.out Hq1.out
          have S0 := Lib.hid s0
          have S1 := Lib.hid s1
          have hGa4 : w4.cell? ⟨G, off, none⟩ = some (.pointer (some ⟨w1.heap.size, 2, none⟩)) := (World.cell?_of_block (hg4.block _ hG2 (by simp; omega))).trans hGa
          have hGb4 : w4.cell? ⟨G, off + 1, none⟩ = some (.pointer (some ⟨w1.heap.size, 3, none⟩)) := (World.cell?_of_block (hg4.block _ hG2 (by simp; omega))).trans hGb
          have hz4 := hg4.size
          have hmid4 := Hmid.out.read hlt hw1 hz2 hg4 hr4
          obtain ⟨a0, a1, a2, a3, a4, az⟩ := cells_of_arr hmid4.1
          have Hmid4 := Lib.hid hmid4
          have hpM : p < w1.heap.size := by omega
          have hGM : w1.heap.size < G := by omega
          have hm := bits_mask .i64 63 (by decide) (fun n h0 h1 => by rw [IntKind.wrap_i64]; omega) 4 (by decide) (b : Int) (by omega) (by omega)
          have hm' : bits .and .i64 (b : Int) 15 = ((b % 16 : Nat) : Int) := by simpa using hm
          have hb0 : (0 : Int) ≤ (b : Int) := Int.natCast_nonneg _
          have hb1 : (b : Int) < 256 := by omega
          clear hbs s0 s1 hmid4 hr4 hg4 hGa hGb hG3 hP hm
          have Hmid5 : Hid (MidMac w w2 w1.heap.size p s ((m.put 2 ((b / 16 : Nat) : Int)).put 3 ((b % 16 : Nat) : Int)) r' q' ((w4.setCell ⟨w1.heap.size, 2, none⟩ (.int .i64 ((b : Int) / 16))).setCell ⟨w1.heap.size, 3, none⟩ (.int .i64 ((b : Int) % 16))).drew) := Lib.hid ((Hmid4.out.put hlt hw1 hz2 2 (by simp) ((b / 16 : Nat) : Int)).put hlt hw1 hz2 3 (by simp) ((b % 16 : Nat) : Int)).drew
          go_wp2
          go_region
          go_wp2
          all_goals
            go_roundg 0
            case measure => omega
            case rel => exact ⟨[], _, r', q', .inl rfl, rfl, .inr ⟨G, _, _, rfl, Nat.zero_le _, fun h => absurd h (Nat.lt_irrefl 0)⟩, Hmid5.out, S0.out, S1.out⟩
        · obtain ⟨G, off, c, rfl, hc1, hP⟩ := Hl.out.resolve_left (by rintro ⟨_, h⟩; cases h)
          obtain ⟨hG1, hG2, hG3⟩ := hP (by simp)
          have hGa := hG3 0 1 rfl
          have hGb := hG3 1 2 rfl
          simp only [Nat.add_zero, ptrM, List.length_cons, List.length_nil, Nat.zero_add, Nat.reduceAdd] at hGa hGb hc1
          have i1 : (2 : Int) ≤ (c : Int) := by omega
          have i3 : ¬ 2 = c := by omega
          have hGc := hG3 2 3 rfl
          simp only [ptrM] at hGc
          go_wp2_with fail
          refine Byte_any p bs' bad' _ Hmid.out.2.2.1 _ (fun b r' q' hbs hb w4 hg4 hr4 => ?_)
          obtain ⟨s0, s1⟩ := two_step hbs Hq0.out Hq1.out
          have S0 := Lib.hid s0
          have S1 := Lib.hid s1
          have hGa4 : w4.cell? ⟨G, off, none⟩ = some (.pointer (some ⟨w1.heap.size, 1, none⟩)) := (World.cell?_of_block (hg4.block _ hG2 (by simp; omega))).trans hGa
          have hGb4 : w4.cell? ⟨G, off + 1, none⟩ = some (.pointer (some ⟨w1.heap.size, 2, none⟩)) := (World.cell?_of_block (hg4.block _ hG2 (by simp; omega))).trans hGb
          have hGc4 : w4.cell? ⟨G, off + 2, none⟩ = some (.pointer (some ⟨w1.heap.size, 3, none⟩)) := (World.cell?_of_block (hg4.block _ hG2 (by simp; omega))).trans hGc
          have HGc : Hid (∀ u v : Value, ((w4.setCell ⟨w1.heap.size, 1, none⟩ u).setCell ⟨w1.heap.size, 2, none⟩ v).drew.cell? ⟨G, off + 2, none⟩ = some (.pointer (some ⟨w1.heap.size, 3, none⟩))) := Lib.hid fun u v =>
            (World.cell?_of_block ((grown_setCell _ ⟨w1.heap.size, 2, none⟩ v).block _ (by simp [World.setCell]; have := hg4.size; omega) (by simp; omega))).trans ((World.cell?_of_block ((grown_setCell w4 ⟨w1.heap.size, 1, none⟩ u).block _ (by have := hg4.size; show G < _; omega) (by simp; omega))).trans hGc4)
          have hz4 := hg4.size
          have hmid4 := Hmid.out.read hlt hw1 hz2 hg4 hr4
          obtain ⟨a0, a1, a2, a3, a4, az⟩ := cells_of_arr hmid4.1
          have Hmid4 := Lib.hid hmid4
          have hpM : p < w1.heap.size := by omega
          have hGM : w1.heap.size < G := by omega
          have hm := bits_mask .i64 63 (by decide) (fun n h0 h1 => by rw [IntKind.wrap_i64]; omega) 4 (by decide) (b : Int) (by omega) (by omega)
          have hm' : bits .and .i64 (b : Int) 15 = ((b % 16 : Nat) : Int) := by simpa using hm
          have hb0 : (0 : Int) ≤ (b : Int) := Int.natCast_nonneg _
          have hb1 : (b : Int) < 256 := by omega
          clear hGc hGc4 hbs s0 s1 hmid4 hr4 hg4 hGa hGb hG3 hP hm
          have Hmid5 : Hid (MidMac w w2 w1.heap.size p s ((m.put 1 ((b / 16 : Nat) : Int)).put 2 ((b % 16 : Nat) : Int)) r' q' ((w4.setCell ⟨w1.heap.size, 1, none⟩ (.int .i64 ((b : Int) / 16))).setCell ⟨w1.heap.size, 2, none⟩ (.int .i64 ((b : Int) % 16))).drew) := Lib.hid ((Hmid4.out.put hlt hw1 hz2 1 (by simp) ((b / 16 : Nat) : Int)).put hlt hw1 hz2 2 (by simp) ((b % 16 : Nat) : Int)).drew
          go_wp2
          go_region
          go_wp2
          all_goals
            go_roundg 1
            case measure => simp
            case rel =>
              refine ⟨[3], _, r', q', by simp [Regs], rfl, .inr ⟨G, off + 2, c - 2, rfl, by simp; omega, fun _ => ⟨hG1, by simp [World.setCell]; omega, fun k x hx => ?_⟩⟩, Hmid5.out, S0.out, S1.out⟩
              rcases k with _ | k
              · simp at hx
                subst hx
                exact HGc.out _ _
              · simp at hx
    case rest =>
      obtain ⟨m, bs', bad', ⟨hm, he, hr, hg, hn, hz⟩, hq0, hq1⟩ := hcut
      obtain ⟨a0, a1, a2, a3, a4, az⟩ := cells_of_arr hm
      obtain ⟨e0, e1, e2, e3, e4, ez⟩ := cells_of_arr he
      have Hq0 := Lib.hid hq0
      have Hq1 := Lib.hid hq1
      have Hr := Lib.hid hr
      have Hg := Lib.hid hg
      have Hm := Lib.hid hm
      have He := Lib.hid he
      clear hq0 hq1 hr hg hm he Hm3 He3 Hr3 Hpv Hg3 Hg2
      have hwc : w.heap.size < wc.heap.size := by omega
      have Hend : Hid (∀ W m' r', w.grownBy W (some p) → Rd W p r' bad' → (bad' = false → macL bs = some (m', r')) → R (.returned (.agg m'.arr)) W) := Lib.hid fun W m' r' hg' hr' hT => by
        cases bad'
        · exact Hgood.out m' r' (Hq0.out rfl).1 (hT rfl) W hg' hr'
        · exact Hbad.out (Hq1.out rfl) W m' r' hg' hr'
      by_cases hn0 : s.n = 0
      · have hnb : (s.n != 0) = false := by simp [hn0]
        have Hn0 := Lib.hid hn0
        clear hn0
        go_wp2
        have hfin := Lib.hid (five (a := wc) He.out (.int .i64 m.op) (.int .i64 m.dst) (.int .i64 m.a) (.int .i64 m.b) (.int .i64 m.n))
        refine bodyPost_ret (v := .agg m.arr) (res_Mac (T := 54) (by rfl) (by rfl) hfin.out) rfl ?_
        refine Hend.out _ m bs' (grown_then_below Hg.out ?_) (Hr.out.below (B := w.heap.size) ?_ hlt) (fun h => ?_)
        · exact below_five _ _ _ _ _
        · exact below_five _ _ _ _ _
        · rw [← (Hq0.out h).2, tailGo, if_pos Hn0.out]
      · have hnb : (s.n != 0) = true := by simp [hn0]
        have Hn0 := Lib.hid hn0
        clear hn0
        have hM : w.heap.size < w1.heap.size := hz1
        have hstep : Hid (∀ w4, wc.grownBy w4 (some p) → w4.heap[w1.heap.size]? = some (.cells m.arr 54 (0, 0)) ∧ w4.heap[w.heap.size]? = some (.cells (⟨0, 0, 0, 0, 0⟩ : Mac).arr 54 (0, 0))) := Lib.hid fun w4 h4 =>
          ⟨(h4.block _ (by omega) (by simp; omega)).trans Hm.out, (h4.block _ (by omega) (by simp; omega)).trans He.out⟩
        clear a0 a1 a2 a3 a4 az e0 e1 e2 e3 e4 ez
        go_wp2_with fail
        refine Number_calls p bs' bad' _ Hr.out _ (fun n r' hn4 hb4 hN w4 hg4 hr4 => ?_) (fun hb4 w4 n r' hn4 hg4 hr4 => ?_)
        · have Hfin : Hid (∀ W, w.grownBy W (some p) → Rd W p r' false → R (.returned (.agg (⟨m.op, m.dst, m.a, m.b, unfoldN n⟩ : Mac).arr)) W) := Lib.hid fun W hg' hr' =>
            Hgood.out _ r' (Hq0.out hb4).1 (by rw [← (Hq0.out hb4).2, tailGo, if_neg Hn0.out, hN]; rfl) W hg' hr'
          clear hb4 hN
          obtain ⟨hm4, he4⟩ := hstep.out w4 hg4
          obtain ⟨a0, a1, a2, a3, a4, az⟩ := cells_of_arr hm4
          obtain ⟨e0, e1, e2, e3, e4, ez⟩ := cells_of_arr he4
          have hz4 : wc.heap.size ≤ w4.heap.size := hg4.size
          have hg4' := grown_trans Hg.out hg4
          have Hm4 := Lib.hid hm4
          have He4 := Lib.hid he4
          have Hr4 := Lib.hid hr4
          have Hg4 := Lib.hid hg4'
          clear hm4 he4 hr4 hg4 hg4'
          go_wp2_with fail
          refine Unfold_calls n hn4 _ _ ?_
          generalize unfoldN n = un at *
          go_wp2
          have hm5 : (w4.setCell ⟨w1.heap.size, 4, none⟩ (.int .i64 un)).heap[w.heap.size]? = some (.cells (⟨0, 0, 0, 0, 0⟩ : Mac).arr 54 (0, 0)) := ((grown_setCell w4 ⟨w1.heap.size, 4, none⟩ (.int .i64 un)).block _ (by omega) (by simp; omega)).trans He4.out
          have hb5 : Below w1.heap.size w4 (w4.setCell ⟨w1.heap.size, 4, none⟩ (.int .i64 un)) := (Below.refl _ _).setCell (p := ⟨w1.heap.size, 4, none⟩) (Nat.le_refl _) _
          have hfin := Lib.hid (five (a := w4.setCell ⟨w1.heap.size, 4, none⟩ (.int .i64 un)) hm5 (.int .i64 m.op) (.int .i64 m.dst) (.int .i64 m.a) (.int .i64 m.b) (.int .i64 un))
          refine bodyPost_ret (v := .agg (⟨m.op, m.dst, m.a, m.b, un⟩ : Mac).arr) (res_Mac (T := 54) (by rfl) (by rfl) hfin.out) rfl ?_
          refine Hfin.out _ (grown_then_below Hg4.out ?_) (Hr4.out.below (B := w.heap.size) ?_ hlt)
          · exact (hb5.mono (by omega)).trans (below_five _ _ _ _ _)
          · exact (hb5.mono (by omega)).trans (below_five _ _ _ _ _)
        · have Hfin : Hid (∀ W, w.grownBy W (some p) → Rd W p r' true → R (.returned (.agg (⟨m.op, m.dst, m.a, m.b, unfoldN n⟩ : Mac).arr)) W) := Lib.hid fun W hg' hr' => by
            refine Hbad.out ?_ W _ r' hg' hr'
            rcases hb4 with hb4 | hb4
            · exact Hq1.out hb4
            · cases hbb : bad'
              · right
                rw [← (Hq0.out hbb).2, tailGo, if_neg Hn0.out, hb4]
                rfl
              · exact Hq1.out hbb
          clear hb4
          obtain ⟨hm4, he4⟩ := hstep.out w4 hg4
          obtain ⟨a0, a1, a2, a3, a4, az⟩ := cells_of_arr hm4
          obtain ⟨e0, e1, e2, e3, e4, ez⟩ := cells_of_arr he4
          have hz4 : wc.heap.size ≤ w4.heap.size := hg4.size
          have hg4' := grown_trans Hg.out hg4
          have Hm4 := Lib.hid hm4
          have He4 := Lib.hid he4
          have Hr4 := Lib.hid hr4
          have Hg4 := Lib.hid hg4'
          clear hm4 he4 hr4 hg4 hg4'
          go_wp2_with fail
          refine Unfold_calls n hn4 _ _ ?_
          generalize unfoldN n = un at *
          go_wp2
          have hm5 : (w4.setCell ⟨w1.heap.size, 4, none⟩ (.int .i64 un)).heap[w.heap.size]? = some (.cells (⟨0, 0, 0, 0, 0⟩ : Mac).arr 54 (0, 0)) := ((grown_setCell w4 ⟨w1.heap.size, 4, none⟩ (.int .i64 un)).block _ (by omega) (by simp; omega)).trans He4.out
          have hb5 : Below w1.heap.size w4 (w4.setCell ⟨w1.heap.size, 4, none⟩ (.int .i64 un)) := (Below.refl _ _).setCell (p := ⟨w1.heap.size, 4, none⟩) (Nat.le_refl _) _
          have hfin := Lib.hid (five (a := w4.setCell ⟨w1.heap.size, 4, none⟩ (.int .i64 un)) hm5 (.int .i64 m.op) (.int .i64 m.dst) (.int .i64 m.a) (.int .i64 m.b) (.int .i64 un))
          refine bodyPost_ret (v := .agg (⟨m.op, m.dst, m.a, m.b, un⟩ : Mac).arr) (res_Mac (T := 54) (by rfl) (by rfl) hfin.out) rfl ?_
          refine Hfin.out _ (grown_then_below Hg4.out ?_) (Hr4.out.below (B := w.heap.size) ?_ hlt)
          · exact (hb5.mono (by omega)).trans (below_five _ _ _ _ _)
          · exact (hb5.mono (by omega)).trans (below_five _ _ _ _ _)
end Go.Proofs.YtcakodemngchpaaGreatDoor

/- bytes.Read: instructions out of bytes. -/
namespace Go.Proofs.YtcakodemngchpaaGreatDoor
open Go.RowKit
set_option linter.unusedSimpArgs false
set_option linter.unusedVariables false

theorem cells_alloc2 {w : World} {b : Nat} {x y : Value} (h : w.cell? ⟨b, 0, none⟩ = some x ∧ w.cell? ⟨b, 1, none⟩ = some y) (o : Obj) : (w.alloc o).cell? ⟨b, 0, none⟩ = some x ∧ (w.alloc o).cell? ⟨b, 1, none⟩ = some y := by
  have hb : b < w.heap.size := World.block_lt_of_cell? w _ h.1
  exact ⟨(World.cell?_alloc_lt _ _ _ hb).trans h.1, (World.cell?_alloc_lt _ _ _ hb).trans h.2⟩
theorem own_kept {w w1 : World} {base e size n p : Nat} {v : Value} {xs : List Value} (h : w.ownsRow base e size v n xs) (hg : w.grownBy w1 (some p)) (hp : p < base) : w1.ownsRow base e size v n xs :=
  h.kept hg (by
    cases hv : v.ownBlock with
    | none => exact .inl rfl
    | some k => exact .inr (by have := (h.lt k hv).1; simp; omega))
theorem res_slice_Fault {fn : Func} {t p : Tmp} (h : fn.results = #[.tmp t, .cell p 27]) {tmps : Array Value} {b : Nat} {w : World} {v x y : Value} (ht : tmps.getD t undef = v) (hp : tmps.getD p undef = .pointer (some ⟨b, 0, none⟩))
    (hc : w.cell? ⟨b, 0, none⟩ = some x ∧ w.cell? ⟨b, 1, none⟩ = some y) : (results fn tmps).run Tryz.prog w = .ok (.tuple #[v, .agg #[x, y]]) w := by
  rw [Array.getD_eq_getD_getElem?] at hp ht
  simp [results, h, hp, ht, go_sem, hc.1, hc.2]

set_option maxRecDepth 100000 in
set_option maxHeartbeats 4000000 in
theorem Read_own (v : Value) (bs : List UInt8) (w : World) (h : rpByte.SL w w.heap.size bs v) (hS : Shapes w) (R : Ending → World → Prop)
    (hsome : ∀ l, readL bs = some l → ∀ w' u, Below w.heap.size w w' → w'.ownsRow w.heap.size 54 5 u l.length (l.flatMap Mac.cells) → R (.returned (.tuple #[u, .agg #[.int .i64 0, .int .i64 0]])) w')
    (hnone : readL bs = none → ∀ w' (c a : Int), c ≠ 0 → Below w.heap.size w w' → R (.returned (.tuple #[.slice none 0 0, .agg #[.int .i64 c, .int .i64 a]])) w') :
    Calls Tryz.prog 49 #[v] w R := by
  have Hsome := Lib.hid hsome
  have Hnone := Lib.hid hnone
  have HS := Lib.hid hS
  have h0 := hS.1
  obtain ⟨A, n, rfl, hm, hcap, hs⟩ := h.cases_
  obtain ⟨i0, hi, iz0, iz1, iz2⟩ := info_parts info_Mac
  have Hs := Lib.hid hs
  clear hsome hnone hS h hs
  by_cases hmany : 70000 < bs.length
  · have hno := Lib.hid (Hnone.out (by rw [readL_eq, if_pos hmany]))
    have hmi : (70000 : Int) < (bs.length : Int) := by omega
    clear hmany
    go_enter Tryz.func49, Tryz.ntmps49
    go_wp2
    refine bodyPost_ret (v := .tuple #[.slice none 0 0, (.agg #[.int .i64 ((2, 0)).1, .int .i64 ((2, 0)).2])]) (by simp [results, Tryz.results49, go_sem]) rfl ?_
    exact hno.out _ 2 0 (by decide) bl0
  · have hmi : ¬ (70000 : Int) < (bs.length : Int) := by omega
    have hF : ∀ wr, Below (w.heap.size + 1) (w.alloc (Obj.cells #[.int .i64 0, .int .i64 0] 27)) wr → Below w.heap.size w wr := fun wr h => ((Below.refl _ _).alloc (Nat.le_refl _) _).trans (h.mono (by omega))
    have HF := Lib.hid hF
    have hlen : bs.length ≤ 70000 := by omega
    clear hF
    go_enter Tryz.func49, Tryz.ntmps49
    go_wp2
    go_loopg [4, 6, 7] bs.length (fun g out at_ mm wr => ∃ (done : List Mac) (rest : List UInt8), g = rest.length ∧ done.length + rest.length ≤ bs.length ∧ wr.ownsRow (w.heap.size + 2) 54 5 out done.length (done.flatMap Mac.cells) ∧ Rd wr (w.heap.size + 1) rest false ∧ Below (w.heap.size + 1) (w.alloc (Obj.cells #[.int .i64 0, .int .i64 0] 27)) wr ∧ (macsAll rest).map (fun l => done ++ l) = macsAll bs)
    case atStart =>
      refine ⟨[], bs, rfl, by simp, World.ownsRow_nil _ _ _ _, ?_, bl0, by simp⟩
      refine ⟨_, 108, ?_, (Hs.out.up (B' := w.heap.size + 1) (((Below.refl _ _).alloc (Nat.le_refl _) _).alloc (by simp) _) (by omega))⟩
      have := heap_alloc_new (w.alloc (Obj.cells #[.int .i64 0, .int .i64 0] 27)) (Obj.cells #[.slice A bs.length n, .bool false] 108)
      simpa using this
    case round =>
      obtain ⟨done, rest, rfl, hlen2, hown, hrd, hbel, hq⟩ := hrel
      have Hq := Lib.hid hq
      have Hrd := Lib.hid hrd
      have Hbel := Lib.hid hbel
      have Hown := Lib.hid hown
      have hz := hbel.size
      simp at hz
      have hS1 := Lib.hid (HS.out.up (HF.out _ hbel) h0)
      obtain ⟨uu, T, hbk, hsl⟩ := id hrd
      obtain ⟨c0, c1, y0, y1⟩ := cells_of_block hbk
      obtain ⟨A2, n2, rfl, hm2, hcap2, hsl⟩ := hsl.cases_
      have d0 : wr.cell? ⟨w.heap.size, 0, none⟩ = some (.int .i64 0) := by rw [hbel.cell (by simp)]; simp
      have d1 : wr.cell? ⟨w.heap.size, 1, none⟩ = some (.int .i64 0) := by rw [hbel.cell (by simp)]; simp
      have e0 : wr.frozen? ⟨w.heap.size, 0, none⟩ = false := by rw [hbel.frozen (by simp)]; simp
      have e1 : wr.frozen? ⟨w.heap.size, 1, none⟩ = false := by rw [hbel.frozen (by simp)]; simp
      clear hq hrd hbel hown hbk hsl
      by_cases hrest : rest = []
      · subst hrest
        have hrl := macs_end Hq.out (by omega)
        have hsl2 : rpMac.SL wr wr.heap.size done u4 := SLMac_own Hown.out (Nat.le_refl _)
        have Hrl := Lib.hid hrl
        clear hrl
        simp only [List.length_nil] at *
        go_wp2_with fail
        refine Check_calls _ done _ hsl2 hS1.out _ (fun w1 hb1 => ?_)
        have hbel2 : Below (w.heap.size + 1) (w.alloc (Obj.cells #[.int .i64 0, .int .i64 0] 27)) w1 := Hbel.out.trans (hb1.mono (by omega))
        have f0 : w1.cell? ⟨w.heap.size, 0, none⟩ = some (.int .i64 0) := by rw [hbel2.cell (by simp)]; simp
        have f1 : w1.cell? ⟨w.heap.size, 1, none⟩ = some (.int .i64 0) := by rw [hbel2.cell (by simp)]; simp
        have g0 : w1.frozen? ⟨w.heap.size, 0, none⟩ = false := by rw [hbel2.frozen (by simp)]; simp
        have g1 : w1.frozen? ⟨w.heap.size, 1, none⟩ = false := by rw [hbel2.frozen (by simp)]; simp
        have hz1 := hb1.size
        have hpw : w.heap.size < w1.heap.size := by omega
        have Hbel2 := Lib.hid hbel2
        have hown1 := Hown.out.kept (⟨hb1.os, hb1.tape, hb1.output, hb1.size, fun k hk _ => hb1.block k hk⟩ : wr.grownBy w1 none) (by cases hv : Value.ownBlock _ <;> simp)
        have Hown1 := Lib.hid hown1
        have hmz := macsFault_zero done
        generalize macsFault done = F at *
        obtain ⟨c, a⟩ := F
        simp only [] at hmz ⊢
        clear hbel2 d0 d1 e0 e1 c0 c1 y0 y1 hb1 hsl2 hown1
        by_cases hc : c = 0
        · have hca := hmz hc
          simp only [Prod.mk.injEq] at hca
          obtain ⟨rfl, rfl⟩ := hca
          have hso := Hsome.out done (by rw [Hrl.out, if_pos rfl])
          have Hso := Lib.hid hso
          clear hso hmz hc
          go_wp2
          refine bodyPost_ret (v := .tuple #[u4, (.agg #[.int .i64 ((0, 0)).1, .int .i64 ((0, 0)).2])]) (res_slice_Fault (by rfl) (by rfl) (by rfl) (cells_alloc2 (cells_set2 (a := w.alloc (Obj.cells #[Value.int IntKind.i64 0, Value.int IntKind.i64 0] 27)) (B := w.heap.size + 1) Hbel2.out (Nat.lt_succ_self _) (by simp; rfl) (by simp; rfl) _ _) _)) rfl ?_
          have hb3 := HF.out _ Hbel2.out
          have hb4 := hb3.setCell (p := ⟨w.heap.size, 0, none⟩) (Nat.le_refl _) (.int .i64 0)
          have hb5 := hb4.setCell (p := ⟨w.heap.size, 1, none⟩) (Nat.le_refl _) (.int .i64 0)
          have hw1 := ownsRow_setCell_below (ownsRow_setCell_below Hown1.out (a := ⟨w.heap.size, 0, none⟩) (by show w.heap.size < w.heap.size + 2; omega) (.int .i64 0)) (a := ⟨w.heap.size, 1, none⟩) (by show w.heap.size < w.heap.size + 2; omega) (.int .i64 0)
          exact Hso.out _ _ (hb5.alloc (Nat.le_trans (Nat.le_of_lt hpw) (by simp [World.setCell])) _) (ownsRow_base (hw1.alloc _) (by omega))
        · have hno := Lib.hid (Hnone.out (by rw [Hrl.out, if_neg (by simp [hc])]))
          have hcn : (c != 0) = true := by simp [hc]
          have Hc := Lib.hid hc
          clear hmz hc
          go_wp2
          go_region
          go_wp2
          refine bodyPost_ret (v := .tuple #[.slice none 0 0, (.agg #[.int .i64 ((c, a)).1, .int .i64 ((c, a)).2])]) (res_slice_Fault (by rfl) (by rfl) (by rfl) (cells_alloc2 (cells_set2 (a := w.alloc (Obj.cells #[Value.int IntKind.i64 0, Value.int IntKind.i64 0] 27)) (B := w.heap.size + 1) Hbel2.out (Nat.lt_succ_self _) (by simp; rfl) (by simp; rfl) _ _) _)) rfl ?_
          have hb3 := HF.out _ Hbel2.out
          have hb4 := hb3.setCell (p := ⟨w.heap.size, 0, none⟩) (Nat.le_refl _) (.int .i64 c)
          have hb5 := hb4.setCell (p := ⟨w.heap.size, 1, none⟩) (Nat.le_refl _) (.int .i64 a)
          exact hno.out _ c a Hc.out (Below.drew (hb5.alloc (Nat.le_trans (Nat.le_of_lt hpw) (by simp [World.setCell])) _))
      · have hpos : (0 : Int) < (rest.length : Int) := by have := List.length_pos_iff.2 hrest; omega
        have Hrest := Lib.hid hrest
        clear hrest
        go_wp2_with fail
        refine readerMac_calls (w.heap.size + 1) rest false _ Hrd.out hS1.out (by omega) _ (fun m r _ hmac w1 hg1 hr1 => ?_) (fun hbad w1 m r hg1 hr1 => ?_)
        · have hq1 := macs_some Hq.out hmac
          have hrl := macL_short hmac
          have hown1 := own_kept Hown.out hg1 (by omega)
          have hbel1 : Below (w.heap.size + 1) (w.alloc (Obj.cells #[.int .i64 0, .int .i64 0] 27)) w1 := Hbel.out.trans (grown_below hg1 (Nat.le_refl _) (by omega))
          have hz1 := hg1.size
          have hpz := hr1.lt
          obtain ⟨u1, T1, hbk1, hsl1⟩ := id hr1
          obtain ⟨k0, k1, x0, x1⟩ := cells_of_block hbk1
          have Hq1 := Lib.hid hq1
          have Hr1 := Lib.hid hr1
          have Hbel1 := Lib.hid hbel1
          rw [show m.arr = #[.int .i64 m.op, .int .i64 m.dst, .int .i64 m.a, .int .i64 m.b, .int .i64 m.n] from rfl]
          clear hq1 hr1 hbel1 hbk1 hsl1 hmac c0 c1 y0 y1 d0 d1 e0 e1 hg1
          obtain ⟨A5, c5, rfl⟩ := own_slice hown1
          go_wp2_with (at_builtin; refine wpList_append_own _ rfl _ _ 55 rfl (w.heap.size + 2) 54 i0 _ 5 40 Tryz.underlying55 hi iz0 iz1 iz2 rfl (by decide) (.slice A5 done.length c5) done.length (done.flatMap Mac.cells) rfl ((hown1.alloc _).alloc _) ⟨w1.heap.size + 1, 0, none⟩ 1 1 [.int .i64 m.op, .int .i64 m.dst, .int .i64 m.a, .int .i64 m.b, .int .i64 m.n] rfl rfl ?_ ?_ ?_ ?_ ?_ ?_)
          any_goals first | exact World.news_of_block (cs := #[.int .i64 m.op, .int .i64 m.dst, .int .i64 m.a, .int .i64 m.b, .int .i64 m.n]) (t := 54) (fr := (0, 0)) (by have := heap_alloc_new (w1.alloc (Obj.cells #[.int .i64 m.op, .int .i64 m.dst, .int .i64 m.a, .int .i64 m.b, .int .i64 m.n] 54)) (Obj.cells #[.int .i64 m.op, .int .i64 m.dst, .int .i64 m.a, .int .i64 m.b, .int .i64 m.n] 54); simpa using this) | (simp [Value.oneCell']; done) | (unfold maxLen; omega) | omega | (simp; done) | (simp; omega)
          · intro v' w2 hown2 hgrow _
            have hgr : ∀ k, (Value.slice A5 done.length c5).ownBlock = some k → w.heap.size + 2 ≤ k := fun k hk => (hown1.lt k hk).1
            have hb12 : Below (w.heap.size + 2) w1 w2 := (((Below.refl _ w1).alloc (by omega) (Obj.cells #[.int .i64 m.op, .int .i64 m.dst, .int .i64 m.a, .int .i64 m.b, .int .i64 m.n] 54)).alloc (by simp; omega) (Obj.cells #[.int .i64 m.op, .int .i64 m.dst, .int .i64 m.a, .int .i64 m.b, .int .i64 m.n] 54)).grown hgrow (by simp; omega) hgr
            have H1 := Lib.hid (And.intro hown2 (And.intro (Hr1.out.below hb12 (by omega)) (Hbel1.out.trans (hb12.mono (by omega)))))
            clear hown1 hown2 hgrow hgr hb12
            go_wp2
            go_roundg r.length
            case measure => exact hrl
            case rel => exact ⟨done ++ [m], r, rfl, by simp; omega, by simpa [Mac.cells] using H1.out.1, H1.out.2.1, H1.out.2.2, Hq1.out⟩
        · have hmac : macL rest = none := by simpa using hbad
          have hno := Lib.hid (Hnone.out (macs_none Hq.out Hrest.out hmac))
          have hz1 := hg1.size
          have hpz := hr1.lt
          have hbel1 : Below (w.heap.size + 1) (w.alloc (Obj.cells #[.int .i64 0, .int .i64 0] 27)) w1 := Hbel.out.trans (grown_below hg1 (Nat.le_refl _) (by omega))
          obtain ⟨u1, T1, hbk1, hsl1⟩ := id hr1
          obtain ⟨k0, k1, x0, x1⟩ := cells_of_block hbk1
          have f0 : w1.cell? ⟨w.heap.size, 0, none⟩ = some (.int .i64 0) := by rw [hbel1.cell (by simp)]; simp
          have f1 : w1.cell? ⟨w.heap.size, 1, none⟩ = some (.int .i64 0) := by rw [hbel1.cell (by simp)]; simp
          have g0 : w1.frozen? ⟨w.heap.size, 0, none⟩ = false := by rw [hbel1.frozen (by simp)]; simp
          have g1 : w1.frozen? ⟨w.heap.size, 1, none⟩ = false := by rw [hbel1.frozen (by simp)]; simp
          have Hbel1 := Lib.hid hbel1
          have hpw : w.heap.size < w1.heap.size := by omega
          rw [show m.arr = #[.int .i64 m.op, .int .i64 m.dst, .int .i64 m.a, .int .i64 m.b, .int .i64 m.n] from rfl]
          clear hbel1 hbk1 hsl1 hmac c0 c1 y0 y1 d0 d1 e0 e1 hg1 hr1 hbad
          go_wp2
          have hbel1 := Hbel1.out
          refine bodyPost_ret (v := .tuple #[.slice none 0 0, (.agg #[.int .i64 ((1, (bs.length : Int) - rest.length)).1, .int .i64 ((1, (bs.length : Int) - rest.length)).2])]) (res_slice_Fault (by rfl) (by rfl) (by rfl) (cells_alloc2 (cells_set2 (a := w.alloc (Obj.cells #[Value.int IntKind.i64 0, Value.int IntKind.i64 0] 27)) (B := w.heap.size + 1) hbel1 (Nat.lt_succ_self _) (by simp; rfl) (by simp; rfl) _ _) _)) rfl ?_
          have hb3 := HF.out _ hbel1
          have hb4 := hb3.setCell (p := ⟨w.heap.size, 0, none⟩) (Nat.le_refl _) (.int .i64 1)
          have hb5 := hb4.setCell (p := ⟨w.heap.size, 1, none⟩) (Nat.le_refl _) (.int .i64 ((bs.length : Int) - rest.length))
          exact hno.out _ 1 _ (by decide) (hb5.alloc (Nat.le_trans (Nat.le_of_lt hpw) (by simp [World.setCell])) _)
theorem Read_calls (v : Value) (bs : List UInt8) (w : World) (h : rpByte.SL w w.heap.size bs v) (hS : Shapes w) (R : Ending → World → Prop)
    (hsome : ∀ l, readL bs = some l → ∀ w' u, Below w.heap.size w w' → rpMac.SL w' w'.heap.size l u → R (.returned (.tuple #[u, .agg #[.int .i64 0, .int .i64 0]])) w')
    (hnone : readL bs = none → ∀ w' (c a : Int), c ≠ 0 → Below w.heap.size w w' → R (.returned (.tuple #[.slice none 0 0, .agg #[.int .i64 c, .int .i64 a]])) w') :
    Calls Tryz.prog 49 #[v] w R :=
  Read_own v bs w h hS R (fun l hl w' u hb ho => hsome l hl w' u hb (SLMac_own ho (Nat.le_refl _))) hnone
end Go.Proofs.YtcakodemngchpaaGreatDoor