/- bytes.Number and its writer; a number as bytes, by the document. -/
import Derived.Test.YtkodcoianakjoaaDoorLib
import Derived.Test.YtkodcoianakjoaaDoorRows
import Derived.IntWalk
import Derived.Deep.LoopGhost
import Derived.Outline
import Derived.Test.YtkodcoianakjoaaDoorApp
namespace Go.Proofs.YtkodcoianakjoaaDoor
open Go.RowKit
set_option linter.unusedSimpArgs false
set_option linter.unusedVariables false

theorem or128 (m : Nat) : bits .or .u8 ((m : Int) % 256) 128 = (m : Int) % 128 + 128 := by
  have key : ∀ x : Fin 256, bits .or .u8 ((x.val : Nat) : Int) 128 = ((x.val % 128 + 128 : Nat) : Int) := by decide +kernel
  have h := key ⟨m % 256, Nat.mod_lt _ (by decide)⟩
  have e : ((m : Int) % 256) = ((m % 256 : Nat) : Int) := by omega
  rw [e, h]
  show (((m % 256) % 128 + 128 : Nat) : Int) = _
  omega
theorem cells_ofNat (m : Nat) : byteCells (UInt8.ofNat m) = [.int .u8 ((m : Int) % 256)] := by
  unfold byteCells
  rw [UInt8.toNat_ofNat']
  congr 2
theorem cells_high (m : Nat) : byteCells (UInt8.ofNat (m % 128 + 128)) = [.int .u8 ((m : Int) % 128 + 128)] := by
  rw [cells_ofNat]
  congr 2
  omega

theorem buf_one {w : World} {base b : Nat} {x : UInt8} {u : Value} (h : w.heap[b]? = some (.cells #[u] 5 (0, 0))) (hb : base ≤ b) (hx : byteCells x = [u]) : Buf w base (.slice (some ⟨b, 0, none⟩) 1 1) [x] := by
  refine .inl ⟨by simp [byteCells], .inr ⟨b, 1, #[u], rfl, hb, h, Nat.le_refl _, by unfold maxLen; omega, rfl, ?_⟩⟩
  rw [List.flatMap_cons, hx]
  rfl
/-- A byte laid in a block of its own, to be appended. -/
theorem one_src {w : World} {x : UInt8} {u : Value} (hx : byteCells x = [u]) : rpByte.SL (w.alloc (.cells #[u] 5)) (w.alloc (.cells #[u] 5)).heap.size [x] (.slice (some ⟨w.heap.size, 0, none⟩) 1 1) :=
  (buf_one (base := 0) (heap_alloc_new _ _) (Nat.zero_le _) hx).SL (Nat.le_refl _)
theorem buf_next {w wr w1 : World} {v0 v v1 : Value} {o : Obj} (hgr : Grew (fun k => v0.ownBlock = some k) w wr) (hc : Came w v0 v) (hg : Grew (fun k => v.ownBlock = some k) (wr.alloc o) w1) (hc1 : Came (wr.alloc o) v v1) :
    Grew (fun k => v0.ownBlock = some k) w w1 ∧ Came w v0 v1 := by
  have hz := hgr.size
  refine ⟨(hgr.alloc o).trans hg (fun j hj e => ?_), hc.trans hc1 (by simp; omega)⟩
  rcases hc j e with h1 | h1
  · exact h1
  · omega

set_option maxRecDepth 100000 in
set_option maxHeartbeats 4000000 in
theorem bNumber_calls (v : Value) (bs : List UInt8) (n base : Nat) (w : World) (hB : Buf w base v bs) (hn : n < 18446744073709551616) (hlen : bs.length ≤ 1099511627776) (hbase : base ≤ w.heap.size) (R : Ending → World → Prop)
    (hR : ∀ w' v', Grew (fun k => v.ownBlock = some k) w w' → Buf w' base v' (bs ++ numB n) → Came w v v' → R (.returned v') w') :
    Calls Tryd.prog 57 #[v, .int .u64 (n : Int)] w R := by
  obtain ⟨A, c, rfl⟩ := hB.slice
  have HR := Lib.hid hR
  have HB := Lib.hid hB
  clear hR hB
  go_enter Tryd.func57, Tryd.ntmps57
  go_wp2
  go_loopg [0, 1] n (fun g v1 i wr => ∃ (m : Nat) (cur : List UInt8), g = m ∧ m ≤ n ∧ i = .int .u64 (m : Int) ∧ cur ++ numB m = bs ++ numB n ∧ Buf wr base v1 cur ∧ Grew (fun k => Value.ownBlock (.slice A bs.length c) = some k) w wr ∧ Came w (.slice A bs.length c) v1)
  case atStart => exact ⟨n, bs, rfl, Nat.le_refl _, rfl, rfl, HB.out, Grew.refl _ _, Came.refl _ _⟩
  case round =>
    obtain ⟨m, cur, rfl, hm, rfl, hacc, hbuf, hgr, hcame⟩ := hrel
    have i0 : (0 : Int) ≤ (gk : Int) := by omega
    have i1 : (gk : Int) ≤ 18446744073709551615 := by omega
    have hal : cur.length ≤ bs.length + 10 := by have := congrArg List.length hacc; rw [List.length_append, List.length_append] at this; have := numB_len n; omega
    obtain ⟨A1, c1, rfl⟩ := hbuf.slice
    have hbz : base ≤ wr.heap.size := Nat.le_trans hbase hgr.size
    have Hacc := Lib.hid hacc
    have Hbuf := Lib.hid hbuf
    have Hgr := Lib.hid hgr
    have Hcame := Lib.hid hcame
    have hsz := hgr.size
    clear hacc hbuf hgr hcame
    by_cases h : gk < 128
    · have i2 : ¬ (128 : Int) ≤ (gk : Int) := by omega
      have i3 : (gk : Int) % 256 = (gk : Int) := by omega
      have hcb : byteCells (UInt8.ofNat gk) = [.int .u8 (gk : Int)] := by rw [cells_ofNat, i3]
      have Hcb := Lib.hid hcb
      have Hh := Lib.hid h
      clear hcb h
      have hsrc := Lib.hid (one_src (w := wr) Hcb.out)
      go_wp2_with (at_builtin; refine wpList_app_buf _ rfl _ _ _ rfl Tryd.underlying32 rfl (Hbuf.out.alloc _) rfl hsrc.out (by simp; omega) (by simp; omega) ?_)
      intro v1 w1 hb2 hg2 hc2
      obtain ⟨hg3, hc3⟩ := buf_next Hgr.out Hcame.out hg2 hc2
      have hb3 : Buf w1 base v1 (bs ++ numB n) := by
        have := hb2
        rw [← numB_small Hh.out, Hacc.out] at this
        exact this
      have HF := Lib.hid (HR.out _ _ hg3 hb3 hc3)
      clear hb2 hg2 hc2 hb3 hg3 hc3
      go_wp2
      exact HF.out
    · have i2 : (128 : Int) ≤ (gk : Int) := by omega
      obtain ⟨y, hy⟩ : ∃ y : Int, y = (gk : Int) % 128 + 128 := ⟨_, rfl⟩
      have hor := or128 gk
      have hch := cells_high gk
      rw [← hy] at hor hch
      have Hch := Lib.hid hch
      clear hch hy
      have hst : (cur ++ [UInt8.ofNat (gk % 128 + 128)]) ++ numB (gk / 128) = bs ++ numB n := by rw [← Hacc.out, numB_big h (by omega), List.append_assoc]; rfl
      have Hst := Lib.hid hst
      clear hst h
      have hsrc := Lib.hid (one_src (w := wr) Hch.out)
      generalize UInt8.ofNat (gk % 128 + 128) = x at *
      go_wp2_with (at_builtin; refine wpList_app_buf _ rfl _ _ _ rfl Tryd.underlying32 rfl (Hbuf.out.alloc _) rfl hsrc.out (by simp; omega) (by simp; omega) ?_)
      intro v1 w1 hb2 hg2 hc2
      obtain ⟨hg3, hc3⟩ := buf_next Hgr.out Hcame.out hg2 hc2
      have Hb2 := Lib.hid hb2
      have Hg2 := Lib.hid hg3
      have Hc2 := Lib.hid hc3
      clear hb2 hg2 hc2 hg3 hc3 hor
      go_wp2
      go_roundg (gk / 128)
      case measure => omega
      case rel => exact ⟨gk / 128, _, rfl, by omega, by congr 1, Hst.out, Hb2.out, Hg2.out, Hc2.out⟩

theorem numB_pos (n : Nat) : 0 < (numB n).length := by
  unfold numB
  rw [numF]
  split <;> simp


set_option maxRecDepth 100000 in
set_option maxHeartbeats 4000000 in
theorem rNumber_calls : ∀ (f n : Nat) (w : World) (R : Ending → World → Prop), n < 18446744073709551616 → n < f →
    (∀ w' v', Below w.heap.size w w' → Buf w' w.heap.size v' (numB n) → R (.returned v') w') →
    Calls Tryd.prog 62 #[.int .u64 (n : Int)] w R
  | 0, n, w, R, hn, hf, hR => by omega
  | f + 1, n, w, R, hn, hf, hR => by
    have ih := rNumber_calls f
    have HR := Lib.hid hR
    have IH := Lib.hid ih
    clear hR ih
    have i0 : (0 : Int) ≤ (n : Int) := by omega
    have i1 : (n : Int) ≤ 18446744073709551615 := by omega
    by_cases h : n < 128
    · have i2 : (n : Int) < 128 := by omega
      have i3 : (n : Int) % 256 = (n : Int) := by omega
      go_enter Tryd.func62, Tryd.ntmps62
      have hcb : byteCells (UInt8.ofNat n) = [.int .u8 (n : Int)] := by rw [cells_ofNat, i3]
      have hfin := HR.out (w.alloc (Obj.cells #[.int .u8 (n : Int)] 5)) (.slice (some ⟨w.heap.size, 0, none⟩) 1 1) (by repeat (first | exact Below.refl _ _ | assumption | refine below_drewN ?_ _ | refine Below.drew ?_ | refine Below.setCell ?_ (by first | omega | (simp; done) | (simp; omega)) _ | refine Below.alloc ?_ (by first | omega | (simp; done) | (simp; omega)) _ | refine below_step (by assumption) ?_ (by first | omega | (simp; done) | (simp; omega)))) (by rw [numB_small h]; exact buf_one (heap_alloc_new _ _) (Nat.le_refl _) hcb)
      have Hfin := Lib.hid hfin
      clear hcb hfin
      go_wp2
      exact Hfin.out
    · have i2 : ¬ (n : Int) < 128 := by omega
      obtain ⟨y, hy⟩ : ∃ y : Int, y = (n : Int) % 128 + 128 := ⟨_, rfl⟩
      have hch := cells_high n
      rw [← hy] at hch
      have Hch := Lib.hid hch
      have Hy := Lib.hid hy
      have hbig := Lib.hid (numB_big h hn)
      have HN : Hid (∀ w' v', Below w.heap.size w w' → Buf w' w.heap.size v' (UInt8.ofNat (n % 128 + 128) :: numB (n / 128)) → R (.returned v') w') := by
        have := HR.out
        rw [hbig.out] at this
        exact Lib.hid this
      have hdc : ((n : Int) / 128) = ((n / 128 : Nat) : Int) := by omega
      have hdn : n / 128 < f := by omega
      have hd2 : n / 128 < 18446744073709551616 := by omega
      have Hdc := Lib.hid hdc
      generalize UInt8.ofNat (n % 128 + 128) = x at *
      clear hch hy HR hdc h hbig
      go_enter Tryd.func62, Tryd.ntmps62
      go_wp2_with fail
      rw [Hdc.out, ← Hy.out]
      refine IH.out (n / 128) _ _ hd2 hdn (fun w1 v1 hb1 hbuf => ?_)
      have hb1' : Below (w.heap.size + 1) (w.alloc (Obj.cells #[.int .u8 y] 5)) w1 := by simpa using hb1
      have hzz := hb1'.size
      simp at hzz
      have hbw : Below w.heap.size w w1 := ((Below.refl _ _).alloc (Nat.le_refl _) _).trans (hb1'.mono (by omega))
      have hrow : Buf w1 w.heap.size (.slice (some ⟨w.heap.size, 0, none⟩) 1 1) [x] := buf_one ((hb1'.block _ (by omega)).trans (heap_alloc_new _ _)) (Nat.le_refl _) Hch.out
      have hlen := numB_len (n / 128)
      obtain ⟨A1, c1, rfl⟩ := hbuf.slice
      have Hsl := Lib.hid (hbuf.SL (Nat.le_refl _))
      have Hrow := Lib.hid hrow
      have Hbw := Lib.hid hbw
      clear hb1 hb1' hbuf hrow hbw
      generalize hL : numB (n / 128) = L at *
      clear hL
      go_wp2_with (at_builtin; refine wpList_app_buf _ rfl _ _ _ rfl Tryd.underlying32 rfl Hrow.out rfl Hsl.out (by simp; omega) (by omega) ?_)
      intro v2 w2 hb2 hg2 hc2
      have hfin := HN.out w2 v2 (Hbw.out.trans (hg2.below (fun k hk e => by have := Option.some.inj e; simp at this; omega) (by omega))) hb2
      have Hfin := Lib.hid hfin
      clear hb2 hg2 hc2 hfin
      go_wp2
      exact Hfin.out

set_option maxHeartbeats 400000 in
theorem numbered_calls (n : Nat) (w : World) (R : Ending → World → Prop) (hn : n < 9223372036854775808)
    (hR : ∀ w' v', Below w.heap.size w w' → Buf w' w.heap.size v' (numB n) → R (.returned v') w') :
    Calls Tryd.prog 60 #[.int .i64 (n : Int)] w R := by
  have i0 : (0 : Int) ≤ (n : Int) := by omega
  have i1 : (n : Int) ≤ 9223372036854775807 := by omega
  have HR := Lib.hid hR
  clear hR
  go_enter Tryd.func60, Tryd.ntmps60
  go_wp2_with fail
  refine rNumber_calls (n + 1) n _ _ (by omega) (by omega) (fun w1 v1 hb1 hbuf => ?_)
  have hfin := Lib.hid (HR.out _ _ hb1 hbuf)
  obtain ⟨A, c, rfl⟩ := hbuf.slice
  clear hb1 hbuf
  go_wp2
  exact hfin.out

/-- A text, with how long it is. -/
def textB (s : ByteArray) : List UInt8 := numB s.size ++ s.data.toList
set_option maxHeartbeats 400000 in
theorem texted_calls (s : ByteArray) (w : World) (R : Ending → World → Prop) (hs : s.size ≤ 1099511627776)
    (hR : ∀ w' v', Below w.heap.size w w' → Buf w' w.heap.size v' (textB s) → R (.returned v') w') :
    Calls Tryd.prog 61 #[.string s] w R := by
  have i1 : (s.size : Int) ≤ 1099511627776 := by omega
  have HR := Lib.hid hR
  clear hR
  go_enter Tryd.func61, Tryd.ntmps61
  go_wp2_with fail
  refine numbered_calls s.size _ _ (by omega) (fun w1 v1 hb1 hbuf => ?_)
  have hl := numB_len s.size
  have Hb1 := Lib.hid hb1
  have Hbuf := Lib.hid hbuf
  obtain ⟨A, c, rfl⟩ := hbuf.slice
  have hz := hb1.size
  generalize hL : numB s.size = L at *
  have HL := Lib.hid hL
  clear hb1 hbuf hL
  go_wp2_with (at_builtin; refine wpList_app_str _ rfl _ _ _ rfl Tryd.underlying32 rfl Hbuf.out rfl (by omega) hz ?_)
  intro v2 w2 hb2 hg2 hc2
  have hfin := HR.out w2 v2 (Hb1.out.trans (hg2.below (fun k hk e => by have := (Hbuf.out.lt k e).1; omega) hz)) (by unfold textB; rw [HL.out]; exact hb2)
  have Hfin := Lib.hid hfin
  clear hb2 hg2 hc2 hfin
  go_wp2
  exact Hfin.out
end Go.Proofs.YtkodcoianakjoaaDoor
