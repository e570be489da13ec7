/- Words for rows of bytes that are appended to by calls: what may have been written, what the row holds. append onto a row of bytes of the call's own, from any slice of bytes or from a text: the laws for the walk. bytes.Number and its writer; a number as bytes, by the document. The writer of bytes: numbers, texts; sums of bytes; numbers folded. Numbers folded. An object's bytes, plainly. -/
import Derived.Test.YtcakodemngchpaaGreatDoorBase
import Derived.Test.YtcakodemngchpaaGreatDoorRows
import Derived.IntWalk
import Derived.Test.YtcakodemngchpaaGreatDoorCopyA
import Derived.Maps.AppendAt
import Derived.Laws.AppendOwnNone
import Derived.Lib.AppendStr
import Derived.Deep.LoopGhost
import Derived.Outline
import Derived.Laws.BitsLemmas
import Derived.Laws.Bits64
import Derived.Laws.Bits64b
import Derived.Test.YtcakodemngchpaaGreatDoorPlainA
/- Words for rows of bytes that are appended to by calls: what may have been written, what the row holds. -/
namespace Go.Proofs.YtcakodemngchpaaGreatDoor
open Go.RowKit
set_option linter.unusedSimpArgs false
set_option linter.unusedVariables false

/-- From w to w' only blocks X have been written, and new ones. -/
structure Grew (X : Nat → Prop) (w w' : World) : Prop where
  os : w'.os = w.os
  tape : w'.tape = w.tape
  output : w'.output = w.output
  size : w.heap.size ≤ w'.heap.size
  block : ∀ k, k < w.heap.size → ¬ X k → w'.heap[k]? = w.heap[k]?
theorem Grew.refl (X : Nat → Prop) (w : World) : Grew X w w := ⟨rfl, rfl, rfl, Nat.le_refl _, fun _ _ _ => rfl⟩
theorem Grew.trans {X Y : Nat → Prop} {a b c : World} (h : Grew X a b) (k : Grew Y b c) (hs : ∀ j, j < a.heap.size → Y j → X j) : Grew X a c :=
  ⟨k.os.trans h.os, k.tape.trans h.tape, k.output.trans h.output, Nat.le_trans h.size k.size, fun j hj hX => (k.block j (Nat.lt_of_lt_of_le hj h.size) (fun hy => hX (hs j hj hy))).trans (h.block j hj hX)⟩
theorem Grew.more {X Y : Nat → Prop} {a b : World} (h : Grew X a b) (hs : ∀ j, j < a.heap.size → X j → Y j) : Grew Y a b := (Grew.refl Y a).trans h hs
theorem Grew.of_grown {w w' : World} {row : Option Nat} (h : w.grownBy w' row) : Grew (fun k => row = some k) w w' := ⟨h.os, h.tape, h.output, h.size, fun k hk hx => h.block k hk (fun e => hx e.symm)⟩
theorem Grew.of_below {X : Nat → Prop} {B : Nat} {w w' : World} (h : Below B w w') (hB : ∀ k, B ≤ k → k < w.heap.size → X k) : Grew X w w' := ⟨h.os, h.tape, h.output, h.size, fun k hk hX => h.block k (by
  rcases Nat.lt_or_ge k B with hlt | hge
  · exact hlt
  · exact absurd (hB k hge hk) hX)⟩
theorem Grew.below {X : Nat → Prop} {B : Nat} {w w' : World} (h : Grew X w w') (hX : ∀ k, k < B → ¬ X k) (hB : B ≤ w.heap.size) : Below B w w' := ⟨h.os, h.tape, h.output, h.size, fun k hk => h.block k (by omega) (hX k hk)⟩
theorem Grew.on {X : Nat → Prop} {a w w' : World} (h : Grew X a w) (hb : Below w.heap.size w w') : Grew X a w' :=
  h.trans (Grew.of_below (X := fun _ => False) hb (fun k h1 h2 => by omega)) (fun _ _ h => h.elim)
theorem Grew.alloc {X : Nat → Prop} {a w : World} (h : Grew X a w) (o : Obj) : Grew X a (w.alloc o) := h.on ((Below.refl _ _).alloc (Nat.le_refl _) o)
theorem Grew.drew {X : Nat → Prop} {a w : World} (h : Grew X a w) : Grew X a w.drew := h.on (Below.refl w.heap.size w).drew
theorem Grew.setCell {X : Nat → Prop} {a w : World} (h : Grew X a w) (p : Addr) (hp : X p.block ∨ a.heap.size ≤ p.block) (u : Value) : Grew X a (w.setCell p u) :=
  h.trans (Grew.of_grown (grown_setCell w p u)) (fun j hj e => by
    have : p.block = j := Option.some.inj e
    subst this
    rcases hp with hp | hp
    · exact hp
    · omega)

/-- A row of bytes of the call's own, from base on; or one that is full (a constant's row: it bears a mark), which an append leaves. -/
def Buf (w : World) (base : Nat) (v : Value) (bs : List UInt8) : Prop :=
  w.ownsRow base 5 1 v bs.length (bs.flatMap byteCells) ∨
  (0 < bs.length ∧ bs.length ≤ maxLen ∧ ∃ g cur fr, v = .slice (some ⟨g, 0, none⟩) bs.length bs.length ∧ base ≤ g ∧ w.heap[g]? = some (.cells cur 5 fr) ∧ cur.toList = bs.flatMap byteCells)
/-- Where the row v' lies that has come of the row v: there, or in a new block. -/
def Came (w : World) (v v' : Value) : Prop := ∀ g, v'.ownBlock = some g → v.ownBlock = some g ∨ w.heap.size ≤ g
theorem Came.refl (w : World) (v : Value) : Came w v v := fun _ h => .inl h
theorem Came.trans {w w1 : World} {a b c : Value} (h : Came w a b) (k : Came w1 b c) (hs : w.heap.size ≤ w1.heap.size) : Came w a c := fun g hg => by
  rcases k g hg with h1 | h1
  · exact h g h1
  · exact .inr (by omega)
theorem Buf.slice {w : World} {base : Nat} {v : Value} {bs : List UInt8} (h : Buf w base v bs) : ∃ A c, v = .slice A bs.length c := by
  rcases h with h | ⟨_, _, g, _, _, h, _⟩
  · exact own_slice h
  · exact ⟨_, _, h⟩
theorem Buf.cap {w : World} {base : Nat} {A : Option Addr} {n c : Nat} {bs : List UInt8} (h : Buf w base (.slice A n c) bs) : bs.length ≤ c := by
  rcases h with h | ⟨_, _, g, _, _, h, _⟩
  · rcases h.2 with ⟨h, h0⟩ | ⟨_, _, _, h, _, _, h1, _⟩
    · injection h with _ _ h
      omega
    · injection h with _ _ h
      omega
  · injection h with _ _ h
    omega
theorem Buf.lt {w : World} {base : Nat} {v : Value} {bs : List UInt8} (h : Buf w base v bs) : ∀ k, v.ownBlock = some k → base ≤ k ∧ k < w.heap.size := by
  rcases h with h | ⟨_, _, g, _, _, rfl, hb, hh, _⟩
  · exact World.ownsRow.lt h
  · intro k hk
    obtain rfl : g = k := Option.some.inj hk
    exact ⟨hb, (Array.getElem?_eq_some_iff.1 hh).1⟩
theorem Buf.keep {w w' : World} {base : Nat} {v : Value} {bs : List UInt8} (h : Buf w base v bs) (hk : ∀ k, v.ownBlock = some k → k < w.heap.size → w'.heap[k]? = w.heap[k]?) : Buf w' base v bs := by
  have hl := h.lt
  rcases h with h | ⟨h0, hm, g, cur, fr, rfl, hb, hh, hc⟩
  · left
    obtain ⟨h1, h2⟩ := h
    refine ⟨h1, ?_⟩
    rcases h2 with h2 | ⟨g, cap, cur, hv, hb, hh, r⟩
    · exact .inl h2
    · have e : v.ownBlock = some g := by rw [hv]; rfl
      exact .inr ⟨g, cap, cur, hv, hb, (hk g e (hl g e).2).trans hh, r⟩
  · exact .inr ⟨h0, hm, g, cur, fr, rfl, hb, (hk g rfl (hl g rfl).2).trans hh, hc⟩
theorem Buf.below {w w' : World} {base B : Nat} {v : Value} {bs : List UInt8} (h : Buf w base v bs) (hb : Below B w w') (hB : w.heap.size ≤ B) : Buf w' base v bs := h.keep fun k _ hk => hb.block k (by omega)
theorem Buf.alloc {w : World} {base : Nat} {v : Value} {bs : List UInt8} (h : Buf w base v bs) (o : Obj) : Buf (w.alloc o) base v bs := h.below ((Below.refl _ _).alloc (Nat.le_refl _) o) (Nat.le_refl _)
theorem Buf.grew {X : Nat → Prop} {w w' : World} {base : Nat} {v : Value} {bs : List UInt8} (h : Buf w base v bs) (hg : Grew X w w') (hX : ∀ k, v.ownBlock = some k → ¬ X k) : Buf w' base v bs := h.keep fun k hk hl => hg.block k hl (hX k hk)
theorem Buf.SL {w : World} {base B : Nat} {v : Value} {bs : List UInt8} (h : Buf w base v bs) (hB : w.heap.size ≤ B) : rpByte.SL w B bs v := by
  rcases h with h | ⟨h0, hm, g, cur, fr, rfl, hb, hh, hc⟩
  · exact SLbyte_own h hB
  · refine ⟨_, _, rfl, hm, Nat.le_refl _, fun _ => ⟨g, 0, rfl, by have := (Array.getElem?_eq_some_iff.1 hh).1; omega, fun k x hk => ⟨byteCells x, rfl, fun j u hj => ?_⟩⟩⟩
    have hj1 : j < 1 := (List.getElem?_eq_some_iff.1 hj).1
    have hg := Rp.flat_get byteCells 1 (fun _ => rfl) bs k j x hk hj1
    rw [← hc, hj, Array.getElem?_toList] at hg
    rw [Nat.zero_add]
    simpa [World.cell?, hh, rpByte] using hg
theorem Buf.base {w : World} {base b' : Nat} {v : Value} {bs : List UInt8} (h : Buf w base v bs) (hb : b' ≤ base) : Buf w b' v bs := by
  rcases h with h | ⟨h0, hm, g, cur, fr, h1, h2, r⟩
  · exact .inl (ownsRow_base h hb)
  · exact .inr ⟨h0, hm, g, cur, fr, h1, by omega, r⟩
theorem flat_bytes (bs cs : List UInt8) : (bs ++ cs).flatMap byteCells = bs.flatMap byteCells ++ cs.flatMap byteCells := List.flatMap_append
/-- A number, as bytes. -/
def numF : Nat → Nat → List UInt8
  | 0, _ => []
  | f + 1, n => if n < 128 then [UInt8.ofNat n] else UInt8.ofNat (n % 128 + 128) :: numF f (n / 128)
def numB (n : Nat) : List UInt8 := numF 10 n
theorem numF_more : ∀ (f g n : Nat), n < 128 ^ f → n < 128 ^ g → 0 < f → 0 < g → numF f n = numF g n
  | 0, _, _, _, _, h, _ => by omega
  | _ + 1, 0, _, _, _, _, h => by omega
  | f + 1, g + 1, n, hf, hg, _, _ => by
    rw [numF, numF]
    by_cases h : n < 128
    · rw [if_pos h, if_pos h]
    · rw [if_neg h, if_neg h]
      have h1 : n / 128 < 128 ^ f := by rw [Nat.div_lt_iff_lt_mul (by decide), ← Nat.pow_succ]; exact hf
      have h2 : n / 128 < 128 ^ g := by rw [Nat.div_lt_iff_lt_mul (by decide), ← Nat.pow_succ]; exact hg
      have h3 : 0 < f := by
        rcases Nat.eq_zero_or_pos f with e | e
        · subst e; simp at h1; omega
        · exact e
      have h4 : 0 < g := by
        rcases Nat.eq_zero_or_pos g with e | e
        · subst e; simp at h2; omega
        · exact e
      rw [numF_more f g _ h1 h2 h3 h4]
theorem numB_small {n : Nat} (h : n < 128) : numB n = [UInt8.ofNat n] := by
  unfold numB
  rw [numF, if_pos h]
theorem numB_big {n : Nat} (h : ¬ n < 128) (hn : n < 18446744073709551616) : numB n = UInt8.ofNat (n % 128 + 128) :: numB (n / 128) := by
  have e : numB n = UInt8.ofNat (n % 128 + 128) :: numF 9 (n / 128) := by
    unfold numB
    rw [numF, if_neg h]
  rw [e]
  unfold numB
  rw [numF_more 9 10 (n / 128) (by omega) (by omega) (by decide) (by decide)]
theorem numF_len : ∀ (f n : Nat), (numF f n).length ≤ f
  | 0, _ => Nat.le_refl _
  | f + 1, n => by
    rw [numF]
    split
    · simp
    · have := numF_len f (n / 128)
      simp; omega
theorem numB_len (n : Nat) : (numB n).length ≤ 10 := numF_len 10 n
end Go.Proofs.YtcakodemngchpaaGreatDoor

/- append onto a row of bytes of the call's own, from any slice of bytes or from a text: the laws for the walk. -/
namespace Go.Proofs.YtcakodemngchpaaGreatDoor
open Go.RowKit
set_option linter.unusedSimpArgs false
set_option linter.unusedVariables false

theorem came_of_at {w : World} {v v' : Value} (h : v'.ownBlock = v.ownBlock ∨ v'.ownBlock = some w.heap.size) : Came w v v' := fun g hg => by
  rcases h with h | h
  · exact .inl (by rw [← h]; exact hg)
  · right
    rw [hg] at h
    exact Nat.le_of_eq (Option.some.inj h).symm

/-- Where nothing is appended the value stays. -/
theorem run_app_nought {t ty : TypeId} (ht : Tryz.prog.underlying t = some (.slice 5)) {w : World} {A A1 : Option Addr} {n c c1 : Nat} (h : n ≤ c1) : (Builtin.append_ #[t, t] ty #[.slice A1 n c1, .slice A 0 c]).run Tryz.prog w = .ok (.slice A1 n c1) w := by
  obtain ⟨iB, hi, zb0, zb1, zb2⟩ := info_parts info_byte
  cases A <;> cases A1 <;> simp [Builtin.append_, run_underlying ht, sizeOf, typeInfo, hi, Builtin.lenOf, h, Builtin.firstCells, loadCells, loadCellsFrom, storeCells]
theorem grown_buf {w : World} {base old n : Nat} {xs : List UInt8} (hbase : base ≤ w.heap.size) (hn : n = xs.length) (hm : n ≤ maxLen) :
    Buf (w.drew.alloc (.cells ((xs.flatMap byteCells).toArray ++ Builtin.zeroCells (Value.int .u8 0).cells (grownCap w n old 5 - n)) 5)) base (.slice (some ⟨w.heap.size, 0, none⟩) n (grownCap w n old 5)) xs := by
  subst hn
  have hge := grownCap_ge w xs.length old 5
  have hcm := grownCap_le_maxLen w xs.length old 5 hm
  have hfl := flat_length byteCells 1 (fun _ => rfl) xs
  refine .inl ⟨hfl, .inr ⟨w.heap.size, _, _, rfl, hbase, heap_alloc_new w.drew _, hge, hcm, ?_, ?_⟩⟩
  · have hz1 : (Value.int IntKind.u8 0).cells.size = 1 := rfl
    simp only [Array.size_append, List.size_toArray, size_zeroCells, hz1, hfl]
    omega
  · simp only [Array.toList_append]
    rw [← hfl]
    exact List.take_left
theorem run_app_buf {t ty : TypeId} (ht : Tryz.prog.underlying t = some (.slice 5)) {w : World} {base B : Nat} {v u : Value} {bs cs : List UInt8} (hb : Buf w base v bs) (hu : rpByte.SL w B cs u) (hlen : bs.length + cs.length ≤ 70368744177664) (hbase : base ≤ w.heap.size) :
    ∃ v' w', (Builtin.append_ #[t, t] ty #[v, u]).run Tryz.prog w = .ok v' w' ∧ Buf w' base v' (bs ++ cs) ∧ Grew (fun k => v.ownBlock = some k) w w' ∧ Came w v v' := by
  obtain ⟨iB, hi, zb0, zb1, zb2⟩ := info_parts info_byte
  obtain ⟨A, c, rfl, hm, hcap, hu⟩ := hu.cases_
  rcases Nat.eq_zero_or_pos cs.length with h0 | hpos
  · have hx := List.eq_nil_of_length_eq_zero h0
    subst hx
    obtain ⟨A1, c1, rfl⟩ := hb.slice
    exact ⟨_, w, run_app_nought ht hb.cap, by simpa using hb, Grew.refl _ _, Came.refl _ _⟩
  · obtain ⟨b, off, _, hA, _⟩ := hu.at_ (List.getElem?_eq_getElem hpos)
    subst hA
    have hnews := hu.news (r := rpByte) (f := byteCells) (fun _ _ _ _ h => h) (fun _ => rfl) (by decide)
    rcases hb with hb | ⟨hb0, hbm, g, cur, fr, rfl, hbg, hh, hc⟩
    · obtain ⟨v', w', hr, h2, h3, _, h5⟩ := run_append_own_at (P := Tryz.prog) w base t ty 5 iB _ 1 1 ht hi zb0 zb1 zb2 rfl (by decide) v bs.length (bs.flatMap byteCells) hb ⟨b, off, none⟩ cs.length c (cs.flatMap byteCells) (flat_length byteCells 1 (fun _ => rfl) cs)
        hnews (one_byte cs) (by unfold maxLen; omega) (by omega) hbase
      refine ⟨v', w', hr, .inl ?_, Grew.of_grown h3, came_of_at h5⟩
      rw [flat_bytes, List.length_append]
      exact h2
    · have holds : ∀ j u, (bs.flatMap byteCells)[j]? = some u → w.cell? ((⟨g, 0, none⟩ : Addr).add j) = some u := fun j u hj => by
        rw [← hc] at hj
        exact World.news_of_block hh j u hj
      have hr := run_append_grow (P := Tryz.prog) w t ty 5 iB _ ht hi zb0 ⟨g, 0, none⟩ bs.length bs.length (bs.flatMap byteCells) (by rw [zb1]; exact flat_length byteCells 1 (fun _ => rfl) bs) holds ⟨b, off, none⟩ cs.length c (cs.flatMap byteCells) (by rw [zb1]; exact flat_length byteCells 1 (fun _ => rfl) cs) hnews (by omega) (by omega) (by rw [zb2]; exact growslice_fits (by omega) (by omega))
      refine ⟨_, _, hr, ?_, ⟨rfl, rfl, rfl, by simp, fun k hk _ => Below.heap_alloc w.drew _ k hk⟩, fun k hk => .inr (Nat.le_of_eq (Option.some.inj hk))⟩
      have := grown_buf (w := w) (old := bs.length) (xs := bs ++ cs) (n := bs.length + cs.length) hbase (by rw [List.length_append]) (by unfold maxLen; omega)
      rw [flat_bytes, ← List.append_toArray] at this
      exact this

theorem strCells_flat (s : ByteArray) : Lib.strCells s = s.data.toList.flatMap byteCells := by
  unfold Lib.strCells byteCells
  induction s.data.toList with
  | nil => rfl
  | cons x xs ih => simp [ih]

theorem run_app_str {t ty : TypeId} (ht : Tryz.prog.underlying t = some (.slice 5)) {w : World} {base : Nat} {v : Value} {bs : List UInt8} {s : ByteArray} (hb : Buf w base v bs) (hlen : bs.length + s.size ≤ 70368744177664) (hbase : base ≤ w.heap.size) :
    ∃ v' w', (Builtin.append_ #[t, 9] ty #[v, .string s]).run Tryz.prog w = .ok v' w' ∧ Buf w' base v' (bs ++ s.data.toList) ∧ Grew (fun k => v.ownBlock = some k) w w' ∧ Came w v v' := by
  obtain ⟨iB, hi, zb0, zb1, zb2⟩ := info_parts info_byte
  have hsz : s.data.toList.length = s.size := by rw [Array.length_toList]; rfl
  rcases hb with hb | ⟨hb0, hbm, g, cur, fr, rfl, hbg, hh, hc⟩
  · obtain ⟨v', w', hr, h2, h3, h4⟩ := Lib.run_append_own_string (P := Tryz.prog) w base t 9 ty 5 iB ht Tryz.underlying9 hi zb0 zb1 zb2 v bs.length (bs.flatMap byteCells) hb s (by unfold maxLen; omega) (by omega) hbase
    refine ⟨v', w', hr, .inl ?_, Grew.of_grown h3, fun k hk => ?_⟩
    · rw [flat_bytes, List.length_append, hsz, ← strCells_flat]
      exact h2
    · -- where it lies
      rcases hb.2 with ⟨rfl, h0⟩ | ⟨g, cap, cur, rfl, hbg, hg, hnc, hcm, hcs, htake⟩
      · have hx : bs = [] := List.eq_nil_of_length_eq_zero h0
        subst hx
        obtain ⟨v2, w2, hr2, k2, _, _⟩ := Lib.run_append_own_string (P := Tryz.prog) w w.heap.size t 9 ty 5 iB ht Tryz.underlying9 hi zb0 zb1 zb2 (.slice none 0 0) 0 [] (World.ownsRow_nil _ _ _ _) s (by unfold maxLen; omega) (by omega) (Nat.le_refl _)
        have e := hr.symm.trans hr2
        injection e with e1 e2
        subst e1
        exact .inr (k2.lt k hk).1
      · by_cases hroom : bs.length + s.size ≤ cap
        · have hr2 := Lib.run_append_room_string (P := Tryz.prog) w t 9 ty 5 iB ht Tryz.underlying9 hi zb1 g bs.length cap cur hg s hroom (by omega)
          have e := hr.symm.trans hr2
          injection e with e1 e2
          subst e1
          exact .inl hk
        · have holds : ∀ j u, (bs.flatMap byteCells)[j]? = some u → w.cell? ((⟨g, 0, none⟩ : Addr).add j) = some u := World.ownsRow.cells hb (g := g) rfl
          have hr2 := Lib.run_append_grow_string (P := Tryz.prog) w t 9 ty 5 iB (.int .u8 0) ht Tryz.underlying9 hi zb0 ⟨g, 0, none⟩ bs.length cap (bs.flatMap byteCells) (by rw [zb1]; exact flat_length byteCells 1 (fun _ => rfl) bs) holds s (by omega) (by omega) (by rw [zb2]; exact growslice_fits (by omega) (by omega))
          have e := hr.symm.trans hr2
          injection e with e1 e2
          subst e1
          exact .inr (Nat.le_of_eq (Option.some.inj hk))
  · rcases Nat.eq_zero_or_pos s.size with h0 | hpos
    · have hx : s.data.toList = [] := List.eq_nil_of_length_eq_zero (by omega)
      refine ⟨_, w, ?_, by rw [hx]; simpa using .inr ⟨hb0, hbm, g, cur, fr, rfl, hbg, hh, hc⟩, Grew.refl _ _, Came.refl _ _⟩
      have hf := Lib.run_firstCells_string (P := Tryz.prog) (w := w) 1 s
      have hs0 : Lib.strCells s = [] := List.eq_nil_of_length_eq_zero (by rw [strCells_flat, hx]; rfl)
      rw [h0, hs0] at hf
      simp [Builtin.append_, run_underlying ht, run_underlying Tryz.underlying9, sizeOf, typeInfo, hi, zb1, Builtin.lenOf, h0, hf, storeCells]
    · have holds : ∀ j u, (bs.flatMap byteCells)[j]? = some u → w.cell? ((⟨g, 0, none⟩ : Addr).add j) = some u := fun j u hj => by
        rw [← hc] at hj
        exact World.news_of_block hh j u hj
      have hr := Lib.run_append_grow_string (P := Tryz.prog) w t 9 ty 5 iB (.int .u8 0) ht Tryz.underlying9 hi zb0 ⟨g, 0, none⟩ bs.length bs.length (bs.flatMap byteCells) (by rw [zb1]; exact flat_length byteCells 1 (fun _ => rfl) bs) holds s (by omega) (by omega) (by rw [zb2]; exact growslice_fits (by omega) (by omega))
      refine ⟨_, _, hr, ?_, ⟨rfl, rfl, rfl, by simp, fun k hk _ => Below.heap_alloc w.drew _ k hk⟩, fun k hk => .inr (Nat.le_of_eq (Option.some.inj hk))⟩
      have := grown_buf (w := w) (old := bs.length) (xs := bs ++ s.data.toList) (n := bs.length + s.size) hbase (by rw [List.length_append, hsz]) (by unfold maxLen; omega)
      rw [flat_bytes, ← List.append_toArray, ← strCells_flat] at this
      exact this

/-- At the operation. -/
theorem wp_app_buf (w : World) {o : Oper} {a : Act} {K : Act → World → Prop} {Q : Exit → Act → World → Prop} (s x : Operand) (t : TypeId) (ho : o.op = .call { callee := .builtin .append, args := #[s, x], argTypes := #[t, t] })
    (ht : Tryz.prog.underlying t = some (.slice 5)) {base : Nat} {v u : Value} {bs cs : List UInt8} (hs : a.eval s = v) (hb : Buf w base v bs) (hx : a.eval x = u) {B : Nat} (hu : rpByte.SL w B cs u) (hlen : bs.length + cs.length ≤ 70368744177664) (hbase : base ≤ w.heap.size)
    (h : ∀ v' w', Buf w' base v' (bs ++ cs) → Grew (fun k => v.ownBlock = some k) w w' → Came w v v' → K (a.put o.dst v') w') : o.wp Tryz.prog a w K Q := by
  obtain ⟨v', w', hr, h2, h3, h4⟩ := run_app_buf (ty := o.type) ht hb hu hlen hbase
  unfold Oper.wp execOp
  simp only [ho, resolve, invoke, builtin, Sem.run_bind, Sem.run_pure, Result.andThen_ok, List.map_toArray, List.map_cons, List.map_nil, hs, hx, hr]
  exact h v' w' h2 h3 h4
theorem wpList_app_buf (w : World) {ops : Array Oper} {rest : List Oper} {o : Oper} {a : Act} {Q : Exit → Act → World → Prop} (hgd : o.guard = none) (s x : Operand) (t : TypeId) (ho : o.op = .call { callee := .builtin .append, args := #[s, x], argTypes := #[t, t] })
    (ht : Tryz.prog.underlying t = some (.slice 5)) {base : Nat} {v u : Value} {bs cs : List UInt8} (hs : a.eval s = v) (hb : Buf w base v bs) (hx : a.eval x = u) {B : Nat} (hu : rpByte.SL w B cs u) (hlen : bs.length + cs.length ≤ 70368744177664) (hbase : base ≤ w.heap.size)
    (h : ∀ v' w', Buf w' base v' (bs ++ cs) → Grew (fun k => v.ownBlock = some k) w w' → Came w v v' → wpList Tryz.prog ops Q rest (a.put o.dst v') w') : wpList Tryz.prog ops Q (o :: rest) a w :=
  wpList_plain hgd fun _ hK => wp_app_buf w s x t ho ht hs hb hx hu hlen hbase fun v' w' h2 h3 h4 => hK _ _ (h v' w' h2 h3 h4)
theorem step_app_buf (w : World) {ops : Array Oper} {o : Oper} {a : Act} {K : Act → World → Prop} {Q : Exit → Act → World → Prop} {E : Prop} (hgd : o.guard = none) (s x : Operand) (t : TypeId) (ho : o.op = .call { callee := .builtin .append, args := #[s, x], argTypes := #[t, t] })
    (ht : Tryz.prog.underlying t = some (.slice 5)) {base : Nat} {v u : Value} {bs cs : List UInt8} (hs : a.eval s = v) (hb : Buf w base v bs) (hx : a.eval x = u) {B : Nat} (hu : rpByte.SL w B cs u) (hlen : bs.length + cs.length ≤ 70368744177664) (hbase : base ≤ w.heap.size)
    (h : ∀ v' w', Buf w' base v' (bs ++ cs) → Grew (fun k => v.ownBlock = some k) w w' → Came w v v' → K (a.put o.dst v') w') :
    if Region.wanted o (yielded ops a.tmps) = true then Oper.wp Tryz.prog o a w K Q else E := by
  have hw : Region.wanted o (yielded ops a.tmps) = true := by simp [Region.wanted, hgd]
  rw [if_pos hw]
  exact wp_app_buf w s x t ho ht hs hb hx hu hlen hbase h

/-- At the operation. -/
theorem wp_app_str (w : World) {o : Oper} {a : Act} {K : Act → World → Prop} {Q : Exit → Act → World → Prop} (s x : Operand) (t : TypeId) (ho : o.op = .call { callee := .builtin .append, args := #[s, x], argTypes := #[t, 9] })
    (ht : Tryz.prog.underlying t = some (.slice 5)) {base : Nat} {v : Value} {bs : List UInt8} {st : ByteArray} (hs : a.eval s = v) (hb : Buf w base v bs) (hx : a.eval x = .string st) (hlen : bs.length + st.size ≤ 70368744177664) (hbase : base ≤ w.heap.size)
    (h : ∀ v' w', Buf w' base v' (bs ++ st.data.toList) → Grew (fun k => v.ownBlock = some k) w w' → Came w v v' → K (a.put o.dst v') w') : o.wp Tryz.prog a w K Q := by
  obtain ⟨v', w', hr, h2, h3, h4⟩ := run_app_str (ty := o.type) ht hb hlen hbase
  unfold Oper.wp execOp
  simp only [ho, resolve, invoke, builtin, Sem.run_bind, Sem.run_pure, Result.andThen_ok, List.map_toArray, List.map_cons, List.map_nil, hs, hx, hr]
  exact h v' w' h2 h3 h4
theorem wpList_app_str (w : World) {ops : Array Oper} {rest : List Oper} {o : Oper} {a : Act} {Q : Exit → Act → World → Prop} (hgd : o.guard = none) (s x : Operand) (t : TypeId) (ho : o.op = .call { callee := .builtin .append, args := #[s, x], argTypes := #[t, 9] })
    (ht : Tryz.prog.underlying t = some (.slice 5)) {base : Nat} {v : Value} {bs : List UInt8} {st : ByteArray} (hs : a.eval s = v) (hb : Buf w base v bs) (hx : a.eval x = .string st) (hlen : bs.length + st.size ≤ 70368744177664) (hbase : base ≤ w.heap.size)
    (h : ∀ v' w', Buf w' base v' (bs ++ st.data.toList) → Grew (fun k => v.ownBlock = some k) w w' → Came w v v' → wpList Tryz.prog ops Q rest (a.put o.dst v') w') : wpList Tryz.prog ops Q (o :: rest) a w :=
  wpList_plain hgd fun _ hK => wp_app_str w s x t ho ht hs hb hx hlen hbase fun v' w' h2 h3 h4 => hK _ _ (h v' w' h2 h3 h4)
end Go.Proofs.YtcakodemngchpaaGreatDoor

/- bytes.Number and its writer; a number as bytes, by the document. -/
namespace Go.Proofs.YtcakodemngchpaaGreatDoor
open Go.RowKit
set_option linter.unusedSimpArgs false
set_option linter.unusedVariables false

theorem or128 (m : Nat) : bits .or .u8 ((m : Int) % 256) 128 = (m : Int) % 128 + 128 := by
  have key : ∀ x : Fin 256, bits .or .u8 ((x.val : Nat) : Int) 128 = ((x.val % 128 + 128 : Nat) : Int) := by decide +kernel
  have h := key ⟨m % 256, Nat.mod_lt _ (by decide)⟩
  have e : ((m : Int) % 256) = ((m % 256 : Nat) : Int) := by omega
  rw [e, h]
  show (((m % 256) % 128 + 128 : Nat) : Int) = _
  omega
theorem cells_ofNat (m : Nat) : byteCells (UInt8.ofNat m) = [.int .u8 ((m : Int) % 256)] := by
  unfold byteCells
  rw [UInt8.toNat_ofNat']
  congr 2
theorem cells_high (m : Nat) : byteCells (UInt8.ofNat (m % 128 + 128)) = [.int .u8 ((m : Int) % 128 + 128)] := by
  rw [cells_ofNat]
  congr 2
  omega

theorem buf_one {w : World} {base b : Nat} {x : UInt8} {u : Value} (h : w.heap[b]? = some (.cells #[u] 5 (0, 0))) (hb : base ≤ b) (hx : byteCells x = [u]) : Buf w base (.slice (some ⟨b, 0, none⟩) 1 1) [x] := by
  refine .inl ⟨by simp [byteCells], .inr ⟨b, 1, #[u], rfl, hb, h, Nat.le_refl _, by unfold maxLen; omega, rfl, ?_⟩⟩
  rw [List.flatMap_cons, hx]
  rfl
/-- A byte laid in a block of its own, to be appended. -/
theorem one_src {w : World} {x : UInt8} {u : Value} (hx : byteCells x = [u]) : rpByte.SL (w.alloc (.cells #[u] 5)) (w.alloc (.cells #[u] 5)).heap.size [x] (.slice (some ⟨w.heap.size, 0, none⟩) 1 1) :=
  (buf_one (base := 0) (heap_alloc_new _ _) (Nat.zero_le _) hx).SL (Nat.le_refl _)
theorem buf_next {w wr w1 : World} {v0 v v1 : Value} {o : Obj} (hgr : Grew (fun k => v0.ownBlock = some k) w wr) (hc : Came w v0 v) (hg : Grew (fun k => v.ownBlock = some k) (wr.alloc o) w1) (hc1 : Came (wr.alloc o) v v1) :
    Grew (fun k => v0.ownBlock = some k) w w1 ∧ Came w v0 v1 := by
  have hz := hgr.size
  refine ⟨(hgr.alloc o).trans hg (fun j hj e => ?_), hc.trans hc1 (by simp; omega)⟩
  rcases hc j e with h1 | h1
  · exact h1
  · omega

set_option maxRecDepth 100000 in
set_option maxHeartbeats 4000000 in
theorem bNumber_calls (v : Value) (bs : List UInt8) (n base : Nat) (w : World) (hB : Buf w base v bs) (hn : n < 18446744073709551616) (hlen : bs.length ≤ 1099511627776) (hbase : base ≤ w.heap.size) (R : Ending → World → Prop)
    (hR : ∀ w' v', Grew (fun k => v.ownBlock = some k) w w' → Buf w' base v' (bs ++ numB n) → Came w v v' → R (.returned v') w') :
    Calls Tryz.prog 30 #[v, .int .u64 (n : Int)] w R := by
  obtain ⟨A, c, rfl⟩ := hB.slice
  have HR := Lib.hid hR
  have HB := Lib.hid hB
  clear hR hB
  go_enter Tryz.func30, Tryz.ntmps30
  go_wp2
  go_loopg [0, 1] n (fun g v1 i wr => ∃ (m : Nat) (cur : List UInt8), g = m ∧ m ≤ n ∧ i = .int .u64 (m : Int) ∧ cur ++ numB m = bs ++ numB n ∧ Buf wr base v1 cur ∧ Grew (fun k => Value.ownBlock (.slice A bs.length c) = some k) w wr ∧ Came w (.slice A bs.length c) v1)
  case atStart => exact ⟨n, bs, rfl, Nat.le_refl _, rfl, rfl, HB.out, Grew.refl _ _, Came.refl _ _⟩
  case round =>
    obtain ⟨m, cur, rfl, hm, rfl, hacc, hbuf, hgr, hcame⟩ := hrel
    have i0 : (0 : Int) ≤ (gk : Int) := by omega
    have i1 : (gk : Int) ≤ 18446744073709551615 := by omega
    have hal : cur.length ≤ bs.length + 10 := by have := congrArg List.length hacc; rw [List.length_append, List.length_append] at this; have := numB_len n; omega
    obtain ⟨A1, c1, rfl⟩ := hbuf.slice
    have hbz : base ≤ wr.heap.size := Nat.le_trans hbase hgr.size
    have Hacc := Lib.hid hacc
    have Hbuf := Lib.hid hbuf
    have Hgr := Lib.hid hgr
    have Hcame := Lib.hid hcame
    have hsz := hgr.size
    clear hacc hbuf hgr hcame
    by_cases h : gk < 128
    · have i2 : ¬ (128 : Int) ≤ (gk : Int) := by omega
      have i3 : (gk : Int) % 256 = (gk : Int) := by omega
      have hcb : byteCells (UInt8.ofNat gk) = [.int .u8 (gk : Int)] := by rw [cells_ofNat, i3]
      have Hcb := Lib.hid hcb
      have Hh := Lib.hid h
      clear hcb h
      have hsrc := Lib.hid (one_src (w := wr) Hcb.out)
      go_wp2_with (at_builtin; refine wpList_app_buf _ rfl _ _ _ rfl Tryz.underlying25 rfl (Hbuf.out.alloc _) rfl hsrc.out (by simp; omega) (by simp; omega) ?_)
      intro v1 w1 hb2 hg2 hc2
      obtain ⟨hg3, hc3⟩ := buf_next Hgr.out Hcame.out hg2 hc2
      have hb3 : Buf w1 base v1 (bs ++ numB n) := by
        have := hb2
        rw [← numB_small Hh.out, Hacc.out] at this
        exact this
      have HF := Lib.hid (HR.out _ _ hg3 hb3 hc3)
      clear hb2 hg2 hc2 hb3 hg3 hc3
      go_wp2
      exact HF.out
    · have i2 : (128 : Int) ≤ (gk : Int) := by omega
      obtain ⟨y, hy⟩ : ∃ y : Int, y = (gk : Int) % 128 + 128 := ⟨_, rfl⟩
      have hor := or128 gk
      have hch := cells_high gk
      rw [← hy] at hor hch
      have Hch := Lib.hid hch
      clear hch hy
      have hst : (cur ++ [UInt8.ofNat (gk % 128 + 128)]) ++ numB (gk / 128) = bs ++ numB n := by rw [← Hacc.out, numB_big h (by omega), List.append_assoc]; rfl
      have Hst := Lib.hid hst
      clear hst h
      have hsrc := Lib.hid (one_src (w := wr) Hch.out)
      generalize UInt8.ofNat (gk % 128 + 128) = x at *
      go_wp2_with (at_builtin; refine wpList_app_buf _ rfl _ _ _ rfl Tryz.underlying25 rfl (Hbuf.out.alloc _) rfl hsrc.out (by simp; omega) (by simp; omega) ?_)
      intro v1 w1 hb2 hg2 hc2
      obtain ⟨hg3, hc3⟩ := buf_next Hgr.out Hcame.out hg2 hc2
      have Hb2 := Lib.hid hb2
      have Hg2 := Lib.hid hg3
      have Hc2 := Lib.hid hc3
      clear hb2 hg2 hc2 hg3 hc3 hor
      go_wp2
      go_roundg (gk / 128)
      case measure => omega
      case rel => exact ⟨gk / 128, _, rfl, by omega, by congr 1, Hst.out, Hb2.out, Hg2.out, Hc2.out⟩

set_option maxRecDepth 100000 in
set_option maxHeartbeats 4000000 in
theorem rNumber_calls : ∀ (f n : Nat) (w : World) (R : Ending → World → Prop), n < 18446744073709551616 → n < f →
    (∀ w' v', Below w.heap.size w w' → Buf w' w.heap.size v' (numB n) → R (.returned v') w') →
    Calls Tryz.prog 68 #[.int .u64 (n : Int)] w R
  | 0, n, w, R, hn, hf, hR => by omega
  | f + 1, n, w, R, hn, hf, hR => by
    have ih := rNumber_calls f
    have HR := Lib.hid hR
    have IH := Lib.hid ih
    clear hR ih
    have i0 : (0 : Int) ≤ (n : Int) := by omega
    have i1 : (n : Int) ≤ 18446744073709551615 := by omega
    by_cases h : n < 128
    · have i2 : (n : Int) < 128 := by omega
      have i3 : (n : Int) % 256 = (n : Int) := by omega
      go_enter Tryz.func68, Tryz.ntmps68
      have hcb : byteCells (UInt8.ofNat n) = [.int .u8 (n : Int)] := by rw [cells_ofNat, i3]
      have hfin := HR.out (w.alloc (Obj.cells #[.int .u8 (n : Int)] 5)) (.slice (some ⟨w.heap.size, 0, none⟩) 1 1) bl0 (by rw [numB_small h]; exact buf_one (heap_alloc_new _ _) (Nat.le_refl _) hcb)
      have Hfin := Lib.hid hfin
      clear hcb hfin
      go_wp2
      exact Hfin.out
    · have i2 : ¬ (n : Int) < 128 := by omega
      obtain ⟨y, hy⟩ : ∃ y : Int, y = (n : Int) % 128 + 128 := ⟨_, rfl⟩
      have hch := cells_high n
      rw [← hy] at hch
      have Hch := Lib.hid hch
      have Hy := Lib.hid hy
      have hbig := Lib.hid (numB_big h hn)
      have HN : Hid (∀ w' v', Below w.heap.size w w' → Buf w' w.heap.size v' (UInt8.ofNat (n % 128 + 128) :: numB (n / 128)) → R (.returned v') w') := by
        have := HR.out
        rw [hbig.out] at this
        exact Lib.hid this
      have hdc : ((n : Int) / 128) = ((n / 128 : Nat) : Int) := by omega
      have hdn : n / 128 < f := by omega
      have hd2 : n / 128 < 18446744073709551616 := by omega
      have Hdc := Lib.hid hdc
      generalize UInt8.ofNat (n % 128 + 128) = x at *
      clear hch hy HR hdc h hbig
      go_enter Tryz.func68, Tryz.ntmps68
      go_wp2_with fail
      rw [Hdc.out, ← Hy.out]
      refine IH.out (n / 128) _ _ hd2 hdn (fun w1 v1 hb1 hbuf => ?_)
      have hb1' : Below (w.heap.size + 1) (w.alloc (Obj.cells #[.int .u8 y] 5)) w1 := by simpa using hb1
      have hzz := hb1'.size
      simp at hzz
      have hbw : Below w.heap.size w w1 := ((Below.refl _ _).alloc (Nat.le_refl _) _).trans (hb1'.mono (by omega))
      have hrow : Buf w1 w.heap.size (.slice (some ⟨w.heap.size, 0, none⟩) 1 1) [x] := buf_one ((hb1'.block _ (by omega)).trans (heap_alloc_new _ _)) (Nat.le_refl _) Hch.out
      have hlen := numB_len (n / 128)
      obtain ⟨A1, c1, rfl⟩ := hbuf.slice
      have Hsl := Lib.hid (hbuf.SL (Nat.le_refl _))
      have Hrow := Lib.hid hrow
      have Hbw := Lib.hid hbw
      clear hb1 hb1' hbuf hrow hbw
      generalize hL : numB (n / 128) = L at *
      clear hL
      go_wp2_with (at_builtin; refine wpList_app_buf _ rfl _ _ _ rfl Tryz.underlying25 rfl Hrow.out rfl Hsl.out (by simp; omega) (by omega) ?_)
      intro v2 w2 hb2 hg2 hc2
      have hfin := HN.out w2 v2 (Hbw.out.trans (hg2.below (fun k hk e => by have := Option.some.inj e; simp at this; omega) (by omega))) hb2
      have Hfin := Lib.hid hfin
      clear hb2 hg2 hc2 hfin
      go_wp2
      exact Hfin.out

/-- A text, with how long it is. -/
def textB (s : ByteArray) : List UInt8 := numB s.size ++ s.data.toList
end Go.Proofs.YtcakodemngchpaaGreatDoor

/- The writer of bytes: numbers, texts; sums of bytes; numbers folded. -/
namespace Go.Proofs.YtcakodemngchpaaGreatDoor
open Go.RowKit
set_option linter.unusedSimpArgs false
set_option linter.unusedVariables false

theorem one_blk {w : World} {p : Nat} {u : Value} {T : TypeId} (h : w.heap[p]? = some (.cells #[u] T (0, 0))) : w.cell? ⟨p, 0, none⟩ = some u ∧ w.frozen? ⟨p, 0, none⟩ = false := by
  constructor <;> simp [World.cell?, World.frozen?, h]
theorem one_set {w : World} {p : Nat} {u : Value} {T : TypeId} (h : w.heap[p]? = some (.cells #[u] T (0, 0))) (x : Value) : (w.setCell ⟨p, 0, none⟩ x).heap[p]? = some (.cells #[x] T (0, 0)) := by
  rw [block_set h]
  rfl

theorem Came.ne {w : World} {v v' : Value} {P : Nat} (h : Came w v v') (hv : v.ownBlock ≠ some P) (hP : P < w.heap.size) : v'.ownBlock ≠ some P := fun e => by
  rcases h P e with h1 | h1
  · exact hv h1
  · omega

set_option maxRecDepth 100000 in
set_option maxHeartbeats 4000000 in
theorem wNumber_calls (P T : Nat) (v : Value) (bs : List UInt8) (n base : Nat) (w : World) (hP : w.heap[P]? = some (.cells #[v] T (0, 0))) (hB : Buf w base v bs) (hne : v.ownBlock ≠ some P) (hPl : P < w.heap.size) (hbase : base ≤ w.heap.size) (hn : n < 9223372036854775808) (hlen : bs.length ≤ 1099511627776) (R : Ending → World → Prop)
    (hR : ∀ w' v', w'.heap[P]? = some (.cells #[v'] T (0, 0)) → Buf w' base v' (bs ++ numB n) → Grew (fun k => k = P ∨ v.ownBlock = some k) w w' → Came w v v' → R (.returned (.tuple #[])) w') :
    Calls Tryz.prog 63 #[.pointer (some ⟨P, 0, none⟩), .int .i64 (n : Int)] w R := by
  obtain ⟨A, c, rfl⟩ := hB.slice
  have i0 : (0 : Int) ≤ (n : Int) := by omega
  have i1 : (n : Int) ≤ 9223372036854775807 := by omega
  obtain ⟨c0, z0⟩ := one_blk hP
  have Hne := Lib.hid hne
  have HR := Lib.hid hR
  have HP := Lib.hid hP
  have HB := Lib.hid hB
  clear hR hP hB hne
  go_enter Tryz.func63, Tryz.ntmps63
  go_wp2_with fail
  refine bNumber_calls _ bs n base _ HB.out (by omega) hlen hbase _ (fun w1 v1 hg1 hb1 hc1 => ?_)
  have hP1 : w1.heap[P]? = some (.cells #[.slice A bs.length c] T (0, 0)) := (hg1.block _ hPl (fun e => Hne.out e)).trans HP.out
  have hn1 : v1.ownBlock ≠ some P := hc1.ne Hne.out hPl
  obtain ⟨d0, y0⟩ := one_blk hP1
  obtain ⟨A1, c1, rfl⟩ := hb1.slice
  have hfin : Hid (R (.returned (.tuple #[])) (w1.setCell ⟨P, 0, none⟩ (.slice A1 (bs ++ numB n).length c1))) := Lib.hid (HR.out _ _ (one_set hP1 _)
    (hb1.grew (Grew.of_grown (grown_setCell w1 ⟨P, 0, none⟩ _)) (fun k hk e => hn1 (hk.trans e.symm)))
    ((hg1.more (fun j _ e => Or.inr e)).trans (Grew.of_grown (grown_setCell w1 ⟨P, 0, none⟩ _)) (fun j _ e => .inl (Option.some.inj e).symm)) hc1)
  rw [List.length_append] at hfin
  have hg1z := hg1.size
  clear hg1 hb1 hc1 hP1 c0 z0 hn1
  go_wp2
  go_end0
  exact hfin.out

set_option maxRecDepth 100000 in
set_option maxHeartbeats 4000000 in
theorem wText_calls (P T : Nat) (v : Value) (bs : List UInt8) (s : ByteArray) (base : Nat) (w : World) (hP : w.heap[P]? = some (.cells #[v] T (0, 0))) (hB : Buf w base v bs) (hne : v.ownBlock ≠ some P) (hPl : P < w.heap.size) (hbase : base ≤ w.heap.size) (hs : s.size ≤ 1099511627776) (hlen : bs.length ≤ 1099511627776) (R : Ending → World → Prop)
    (hR : ∀ w' v', w'.heap[P]? = some (.cells #[v'] T (0, 0)) → Buf w' base v' (bs ++ textB s) → Grew (fun k => k = P ∨ v.ownBlock = some k) w w' → Came w v v' → R (.returned (.tuple #[])) w') :
    Calls Tryz.prog 64 #[.pointer (some ⟨P, 0, none⟩), .string s] w R := by
  have i1 : (s.size : Int) ≤ 1099511627776 := by omega
  have HR := Lib.hid hR
  clear hR
  go_enter Tryz.func64, Tryz.ntmps64
  go_wp2_with fail
  refine wNumber_calls P T v bs s.size base _ hP hB hne hPl hbase (by omega) hlen _ (fun w1 v1 hP1 hb1 hg1 hc1 => ?_)
  have hz := hg1.size
  have hl := numB_len s.size
  obtain ⟨c0, z0⟩ := one_blk hP1
  have hPl1 : P < w1.heap.size := by omega
  have hn1 := hc1.ne hne hPl
  obtain ⟨A1, c1, rfl⟩ := hb1.slice
  have Hn1 := Lib.hid hn1
  have HP1 := Lib.hid hP1
  have HB1 := Lib.hid hb1
  have Hg1 := Lib.hid hg1
  have Hc1 := Lib.hid hc1
  have hcl : (bs ++ numB s.size).length ≤ 1099511627786 := by rw [List.length_append]; omega
  have htb : bs ++ textB s = (bs ++ numB s.size) ++ s.data.toList := by unfold textB; rw [List.append_assoc]
  have Htb := Lib.hid htb
  generalize bs ++ numB s.size = cur at *
  clear hP1 hb1 hg1 hc1 htb hl hn1 hne
  go_wp2_with (at_builtin; refine wpList_app_str _ rfl _ _ _ rfl Tryz.underlying137 rfl HB1.out rfl (by omega) (by omega) ?_)
  intro v2 w2 hb2 hg2 hc2
  obtain ⟨A2, c2, rfl⟩ := hb2.slice
  have hP2 : w2.heap[P]? = some (.cells #[.slice A1 cur.length c1] T (0, 0)) := (hg2.block _ hPl1 (fun e => Hn1.out e)).trans HP1.out
  have hn2 := hc2.ne Hn1.out hPl1
  obtain ⟨d0, y0⟩ := one_blk hP2
  have hfin : Hid (R (.returned (.tuple #[])) (w2.setCell ⟨P, 0, none⟩ (.slice A2 (cur ++ s.data.toList).length c2))) := Lib.hid (HR.out _ _ (one_set hP2 _)
    (by
      rw [Htb.out]
      exact hb2.grew (Grew.of_grown (grown_setCell w2 ⟨P, 0, none⟩ _)) (fun k hk e => hn2 (hk.trans e.symm)))
    ((Hg1.out.trans hg2 (fun j hj e => by
      rcases Hc1.out j e with h | h
      · exact .inr h
      · omega)).trans (Grew.of_grown (grown_setCell w2 ⟨P, 0, none⟩ _)) (fun j _ e => .inl (Option.some.inj e).symm)) (Hc1.out.trans hc2 hz))
  rw [List.length_append] at hfin
  have hzz := hg2.size
  clear hg2 hb2 hc2 hP2 c0 z0 hn2
  go_wp2
  go_end0
  first | exact hfin.out | simpa using hfin.out

/-- A sum of bytes. -/
def sumFrom (n : Nat) : List UInt8 → Nat
  | [] => n
  | b :: bs => sumFrom ((31 * n + b.toNat + 1) % 65521) bs
def sumL (bs : List UInt8) : Nat := sumFrom 0 bs
theorem sumFrom_lt : ∀ (bs : List UInt8) (n : Nat), n < 65521 → sumFrom n bs < 65521
  | [], n, h => h
  | b :: bs, n, h => by rw [sumFrom]; exact sumFrom_lt bs _ (Nat.mod_lt _ (by decide))
theorem sumL_lt (bs : List UInt8) : sumL bs < 65521 := sumFrom_lt bs 0 (by decide)
theorem sumFrom_take {bs : List UInt8} {k n : Nat} (h : k < bs.length) : sumFrom n (bs.take (k + 1)) = (31 * sumFrom n (bs.take k) + bs[k].toNat + 1) % 65521 := by
  induction bs generalizing k n with
  | nil => simp at h
  | cons b bs ih =>
    cases k with
    | zero => simp [sumFrom]
    | succ k =>
      rw [List.take_succ_cons, List.take_succ_cons, sumFrom, sumFrom]
      exact ih (by simpa using h)

set_option maxRecDepth 100000 in
set_option maxHeartbeats 4000000 in
theorem Sum_calls (v : Value) (bs : List UInt8) (w : World) (h : rpByte.SL w w.heap.size bs v) (R : Ending → World → Prop) (hR : R (.returned (.int .i64 (sumL bs : Nat))) w) :
    Calls Tryz.prog 33 #[v] w R := by
  obtain ⟨A, c, rfl, hm, hcap, h⟩ := h.cases_
  have HR := Lib.hid hR
  have H := Lib.hid h
  clear hR h
  go_enter Tryz.func33, Tryz.ntmps33
  go_wp2
  go_loopg [3, 5, 8] bs.length (fun g s s5 i wr => ∃ k : Nat, k ≤ bs.length ∧ g = bs.length - k ∧ i = .int .i64 k ∧ s = .int .i64 (sumL (bs.take k) : Nat) ∧ wr = w)
  case atStart => exact ⟨0, Nat.zero_le _, rfl, rfl, rfl, rfl⟩
  case round =>
    obtain ⟨k, hk, rfl, rfl, rfl, rfl⟩ := hrel
    have i1 : (0 : Int) ≤ (k : Int) := Int.natCast_nonneg _
    have hsl := sumL_lt (bs.take k)
    by_cases hlt : k < bs.length
    · obtain ⟨b, off, rfl, hb, q0⟩ := H.out.byte_at hlt
      have i2 : (k : Int) < (bs.length : Int) := by omega
      have hst := sumFrom_take (n := 0) hlt
      have hbl := bs[k].toNat_lt
      have hst2 : sumL (bs.take (k + 1)) = (31 * sumL (bs.take k) + bs[k].toNat + 1) % 65521 := hst
      have Hst := Lib.hid hst2
      generalize sumL (bs.take k) = n at *
      generalize bs[k].toNat = x at *
      clear hst hst2
      have j0 : (0 : Int) ≤ (n : Int) := by omega
      have j1 : (n : Int) < 65521 := by omega
      have j2 : (0 : Int) ≤ (x : Int) := by omega
      have j3 : (x : Int) < 256 := by omega
      go_wp2
      go_roundg (bs.length - (k + 1))
      case measure => omega
      case rel => exact ⟨k + 1, hlt, rfl, by go_num, by rw [Hst.out]; go_num, rfl⟩
    · obtain rfl : k = bs.length := by omega
      rw [List.take_length] at *
      go_wp2
      exact HR.out

end Go.Proofs.YtcakodemngchpaaGreatDoor

/- Numbers folded. -/
namespace Go.Proofs.YtcakodemngchpaaGreatDoor
open Go.RowKit
set_option linter.unusedSimpArgs false
set_option linter.unusedVariables false

def foldN (n : Int) : Nat := if n < 0 then (2 * (-(n + 1)) + 1).toNat else (2 * n).toNat
theorem foldN_lt {n : Int} (h0 : -9223372036854775808 ≤ n) (h1 : n ≤ 9223372036854775807) : foldN n < 18446744073709551616 := by
  unfold foldN
  split <;> omega

theorem xor64_ones (a : Nat) (h : a < 18446744073709551616) : bits .xor .u64 (a : Int) 18446744073709551615 = 18446744073709551615 - (a : Int) := by
  have e : bits .xor .u64 (a : Int) 18446744073709551615 = IntKind.u64.wrap ((BitVec.ofInt 64 (a : Int) ^^^ BitVec.ofInt 64 18446744073709551615).toNat : Nat) := rfl
  rw [e, show BitVec.ofInt 64 18446744073709551615 = BitVec.allOnes 64 from by decide, BitVec.xor_allOnes, BitVec.toNat_not, BitVec.ofInt_natCast, BitVec.toNat_ofNat, IntKind.wrap_u64]
  omega
theorem xor64_zero (a : Nat) (h : a < 18446744073709551616) : bits .xor .u64 (a : Int) 0 = a := by
  have e : bits .xor .u64 (a : Int) 0 = IntKind.u64.wrap ((BitVec.ofInt 64 (a : Int) ^^^ BitVec.ofInt 64 0).toNat : Nat) := rfl
  rw [e, show BitVec.ofInt 64 0 = 0#64 from rfl, BitVec.xor_zero, BitVec.ofInt_natCast, BitVec.toNat_ofNat, IntKind.wrap_u64]
  omega

set_option maxHeartbeats 400000 in
theorem Folded_calls (n : Int) (w : World) (hn : I64 n) (R : Ending → World → Prop) (hR : R (.returned (.int .u64 (foldN n : Nat))) w) :
    Calls Tryz.prog 69 #[.int .i64 n] w R := by
  obtain ⟨h0, h1⟩ := hn
  unfold foldN at hR
  by_cases h : n < 0
  · rw [if_pos h] at hR
    have e : (((2 * (-(n + 1)) + 1).toNat : Nat) : Int) = 2 * (-(n + 1)) + 1 := by omega
    rw [e] at hR
    have HR := Lib.hid hR
    clear hR e
    go_enter Tryz.func69, Tryz.ntmps69
    go_wp2
    exact HR.out
  · rw [if_neg h] at hR
    have e : (((2 * n).toNat : Nat) : Int) = 2 * n := by omega
    rw [e] at hR
    have HR := Lib.hid hR
    have h' : 0 ≤ n := by omega
    clear hR e
    go_enter Tryz.func69, Tryz.ntmps69
    go_wp2
    exact HR.out
set_option maxHeartbeats 400000 in
theorem Fold_calls (n : Int) (w : World) (hn : I64 n) (R : Ending → World → Prop) (hR : R (.returned (.int .u64 (foldN n : Nat))) w) :
    Calls Tryz.prog 65 #[.int .i64 n] w R := by
  obtain ⟨h0, h1⟩ := hn
  unfold foldN at hR
  by_cases h : n < 0
  · rw [if_pos h] at hR
    have e : (((2 * (-(n + 1)) + 1).toNat : Nat) : Int) = 2 * (-(n + 1)) + 1 := by omega
    rw [e] at hR
    have HR := Lib.hid hR
    clear hR e
    go_enter Tryz.func65, Tryz.ntmps65
    go_wp2
    show R (.returned (.int .u64 (bits .xor .u64 (IntKind.u64.wrap (IntKind.u64.wrap n * 2)) (IntKind.u64.wrap (n / 9223372036854775808))))) w
    have e1 : IntKind.u64.wrap (IntKind.u64.wrap n * 2) = (((18446744073709551616 + 2 * n).toNat : Nat) : Int) := by rw [IntKind.wrap_u64, IntKind.wrap_u64]; omega
    have e2 : IntKind.u64.wrap (n / 9223372036854775808) = 18446744073709551615 := by rw [IntKind.wrap_u64]; omega
    rw [e1, e2, xor64_ones _ (by omega), show (18446744073709551615 : Int) - (((18446744073709551616 + 2 * n).toNat : Nat) : Int) = 2 * (-(n + 1)) + 1 from by omega]
    exact HR.out
  · rw [if_neg h] at hR
    have e : (((2 * n).toNat : Nat) : Int) = 2 * n := by omega
    rw [e] at hR
    have HR := Lib.hid hR
    have h' : 0 ≤ n := by omega
    clear hR e
    go_enter Tryz.func65, Tryz.ntmps65
    go_wp2
    have e1 : n * 2 = (((2 * n).toNat : Nat) : Int) := by omega
    have e2 : n / 9223372036854775808 = 0 := by omega
    rw [e1, e2, xor64_zero _ (by omega), show (((2 * n).toNat : Nat) : Int) = 2 * n from by omega]
    exact HR.out
end Go.Proofs.YtcakodemngchpaaGreatDoor

/- An object's bytes, plainly. -/
namespace Go.Proofs.YtcakodemngchpaaGreatDoor
open Go.RowKit
set_option linter.unusedSimpArgs false
set_option linter.unusedVariables false

def initB (l : List Int) : List UInt8 := l.flatMap fun n => numB (foldN n)
def globB (g : Global) : List UInt8 := textB g.name ++ (numB g.size.toNat ++ (numB g.init.length ++ initB g.init))
def mendB (m : Mend) : List UInt8 := numB m.at_.toNat ++ textB m.name
def mendsB (l : List Mend) : List UInt8 := l.flatMap mendB
def secB (s : Section) : List UInt8 := textB s.name ++ (textB (strL s.code) ++ (numB s.mends.length ++ mendsB s.mends))
def globsB (l : List Global) : List UInt8 := l.flatMap globB
def secsB (l : List Section) : List UInt8 := l.flatMap secB
def bodyB (o : Object) : List UInt8 := [79, 66, 74] ++ (numB o.globals.length ++ (globsB o.globals ++ (numB o.sections.length ++ secsB o.sections)))
def sumB (b : List UInt8) : List UInt8 := b ++ [UInt8.ofNat (sumL b / 256), UInt8.ofNat (sumL b % 256)]
def savedB (o : Object) : List UInt8 := sumB (bodyB o)

theorem flat_step {α : Type} (f : α → List UInt8) {l : List α} {k : Nat} {x : α} (h : l[k]? = some x) : (l.drop k).flatMap f = f x ++ (l.drop (k + 1)).flatMap f := by
  obtain ⟨hk, e⟩ := List.getElem?_eq_some_iff.1 h
  rw [List.drop_eq_getElem_cons hk, List.flatMap_cons, e]
theorem flat_le {α : Type} (f : α → List UInt8) (n : Nat) : ∀ (l : List α), (∀ x ∈ l, (f x).length ≤ n) → (l.flatMap f).length ≤ l.length * n
  | [], _ => by simp
  | x :: xs, h => by
    rw [List.flatMap_cons, List.length_append, List.length_cons, Nat.add_mul, Nat.one_mul]
    have h1 := h x (by simp)
    have h2 := flat_le f n xs fun y hy => h y (by simp [hy])
    omega
theorem textB_len (s : ByteArray) : (textB s).length ≤ 10 + s.size := by
  unfold textB
  rw [List.length_append, show s.data.toList.length = s.size from by rw [Array.length_toList]; rfl]
  have := numB_len s.size
  omega
theorem globB_len {g : Global} (h : GlobOk g) : (globB g).length ≤ 3000 := by
  unfold globB initB
  simp only [List.length_append]
  have h1 := textB_len g.name
  have h2 := numB_len g.size.toNat
  have h3 := numB_len g.init.length
  have h4 := flat_le (fun n => numB (foldN n)) 10 g.init (fun n _ => numB_len _)
  have h5 := (goodName_len h.good).2
  have h6 := h.fits
  have h7 := h.high
  omega
theorem mendB_len {m : Mend} (h : goodName m.name = true) : (mendB m).length ≤ 32 := by
  unfold mendB
  simp only [List.length_append]
  have h1 := textB_len m.name
  have h2 := numB_len m.at_.toNat
  have h5 := (goodName_len h).2
  omega
theorem secB_len {s : Section} (hg : goodName s.name = true) (h : secF s = 0) : (secB s).length ≤ 300000 := by
  obtain ⟨a, b, c⟩ := secF_ok h
  unfold secB mendsB
  simp only [List.length_append]
  have h1 := textB_len s.name
  have h2 := textB_len (strL s.code)
  have h3 := numB_len s.mends.length
  have h4 := flat_le mendB 32 s.mends (fun m hm => mendB_len (c m hm).2.2)
  have h5 := (goodName_len hg).2
  rw [strL_size] at h2
  omega
theorem bodyB_len {o : Object} (h : ObjOk o) : (bodyB o).length ≤ 13000000 := by
  unfold bodyB globsB secsB
  simp only [List.length_append, List.length_cons, List.length_nil]
  obtain ⟨g1, g2⟩ := globFault_ok h.glob
  have h1 := flat_le globB 3000 o.globals (fun g hg => globB_len (g2 g hg))
  have h2 := flat_le secB 300000 o.sections (fun s hs => by
    obtain ⟨k, hk, e⟩ := List.mem_iff_getElem.1 hs
    have := h.secs k s (by rw [List.getElem?_eq_getElem hk, e])
    exact secB_len this.good this.fine)
  have h3 := numB_len o.globals.length
  have h4 := numB_len o.sections.length
  have := h.few
  have := Nat.mul_le_mul_right 3000 g1
  have := Nat.mul_le_mul_right 300000 h.few
  omega
/-- All first values fit an int. -/
def Wide (o : Object) : Prop := ∀ g ∈ o.globals, ∀ n ∈ g.init, I64 n
end Go.Proofs.YtcakodemngchpaaGreatDoor
