/- bundle.pack: the bytes of objects that may stand together. -/
import Derived.Test.YtfhnmbnniklmiaaDoorBase
import Derived.Test.YtfhnmbnniklmiaaDoorRows
import Derived.IntWalk
import Derived.Deep.LoopGhost
import Derived.Deep.CutBlock
import Derived.Deep.DeepCutAuto
import Derived.Deep.RegionHeld3
import Derived.Outline
import Derived.Lib.SlBytesConst
import Derived.Test.YtfhnmbnniklmiaaDoorBun3
import Derived.Test.YtfhnmbnniklmiaaDoorObjB
namespace Go.Proofs.YtfhnmbnniklmiaaDoor
open Go.RowKit
set_option linter.unusedSimpArgs false
set_option linter.unusedVariables false

set_option maxRecDepth 100000 in
set_option maxHeartbeats 4000000 in
theorem bunText_calls (v : Value) (bs : List UInt8) (s : ByteArray) (base : Nat) (w : World) (hB : Buf w base v bs) (hlen : bs.length ≤ 1099511627776) (hs : s.size ≤ 1099511627776) (hbase : base ≤ w.heap.size) (R : Ending → World → Prop)
    (hR : ∀ w' v', Grew (fun k => v.ownBlock = some k) w w' → Buf w' base v' (bs ++ textB s) → Came w v v' → R (.returned v') w') :
    Calls Tryd.prog 72 #[v, .string s] w R := by
  obtain ⟨A, c, rfl⟩ := hB.slice
  have i1 : (s.size : Int) ≤ 1099511627776 := by omega
  have HR := Lib.hid hR
  have HB := Lib.hid hB
  clear hR hB
  go_enter Tryd.func72, Tryd.ntmps72
  go_wp2_with fail
  refine bNumber_calls _ bs s.size base _ HB.out (by omega) hlen hbase _ (fun w1 v1 hg1 hb1 hc1 => ?_)
  have hl := numB_len s.size
  have hz := hg1.size
  obtain ⟨A1, c1, rfl⟩ := hb1.slice
  have Hb1 := Lib.hid hb1
  have Hg1 := Lib.hid hg1
  have Hc1 := Lib.hid hc1
  have hcl : (bs ++ numB s.size).length ≤ 1099511627786 := by rw [List.length_append]; omega
  have htb : bs ++ textB s = (bs ++ numB s.size) ++ s.data.toList := by unfold textB; rw [List.append_assoc]
  have Htb := Lib.hid htb
  generalize bs ++ numB s.size = cur at *
  clear hb1 hg1 hc1 htb hl
  go_wp2_with (at_builtin; refine wpList_app_str _ rfl _ _ _ rfl Tryd.underlying39 rfl Hb1.out rfl (by omega) (by omega) ?_)
  intro v2 w2 hb2 hg2 hc2
  have hfin := HR.out w2 v2 (Hg1.out.trans hg2 (fun j hj e => by
    rcases Hc1.out j e with h | h
    · exact h
    · omega)) (by rw [Htb.out]; exact hb2) (Hc1.out.trans hc2 hz)
  have Hfin := Lib.hid hfin
  clear hb2 hg2 hc2 hfin
  go_wp2
  exact Hfin.out

theorem Came.of_drew {w : World} {v v' : Value} (h : Came w.drew v v') : Came w v v' := h
theorem idxL_len {l : List Object} (h : BunOk l) : (idxL l).length ≤ 480 := by
  have h1 := pairsTo_len (l := l) l.length fun j o hj ho => (h.each j o ho).ok.few
  have := h.few
  unfold idxL
  rw [addE_len, List.length_nil]
  omega
theorem objB_len {o : Object} (h : ObjOk o) : (objB o).length ≤ 13000012 := by
  have h1 := bodyB_len h
  have h2 : (savedB o).length = (bodyB o).length + 2 := by unfold savedB sumB; simp
  have h3 := textB_len (strL (savedB o))
  rw [strL_size] at h3
  unfold objB
  omega
theorem idx_size {l : List Object} (h : BunOk l) {e : ByteArray × Nat} (he : e ∈ idxL l) : e.1.size ≤ 12 ∧ e.2 < 12 := by
  have h1 := idx_owner h he
  unfold idxL at he
  rw [mem_addE] at he
  rcases he with he | he
  rotate_left
  · cases he
  obtain ⟨h2, o, s, ho, hs, hn⟩ := mem_pairsTo _ he
  obtain ⟨k, hk, e⟩ := List.mem_iff_getElem.1 hs
  have h3 := ((h.each _ o ho).ok.secs k s (by rw [List.getElem?_eq_getElem hk, e])).good
  have h4 := (goodName_len h3).2
  rw [hn] at h4
  have := h.few
  exact ⟨h4, by omega⟩
theorem bunB_len {l : List Object} (h : BunOk l) : (bunB l).length ≤ 160000000 := by
  unfold bunB
  simp only [List.length_append, List.length_cons, List.length_nil]
  have h1 := flat_le entB 32 (idxL l) (fun e he => by
    have h2 := textB_len e.1
    have h3 := numB_len e.2
    have h4 := (idx_size h he).1
    unfold entB
    rw [List.length_append]
    omega)
  have h2 := flat_le objB 13000012 l (fun o ho => by
    obtain ⟨k, hk, e⟩ := List.mem_iff_getElem.1 ho
    exact objB_len (h.each k o (by rw [List.getElem?_eq_getElem hk, e])).ok)
  have h3 := numB_len l.length
  have h4 := numB_len (idxL l).length
  have h5 := Nat.mul_le_mul_right 32 (idxL_len h)
  have h6 := Nat.mul_le_mul_right 13000012 h.few
  omega
theorem bun_nodup {l : List Object} (h : BunOk l) : ((pairsTo l l.length).map Prod.fst).Nodup := by
  rw [pairsTo_names]
  exact h.nodup l.length
theorem pairs_some {l : List Object} (h : BunOk l) : (pairsTo l l.length).length ≤ 100000 := by
  have h1 := pairsTo_len (l := l) l.length fun j o hj ho => (h.each j o ho).ok.few
  have := h.few
  omega

set_option maxRecDepth 100000 in
set_option maxHeartbeats 8000000 in
theorem bunPack_calls (l : List Object) (v : Value) (w : World) (h : rpObject.SL w w.heap.size l v) (hok : BunOk l) (hwide : ∀ o ∈ l, Wide o) (R : Ending → World → Prop)
    (hR : ∀ w' v', Below w.heap.size w w' → Buf w' w.heap.size v' (packB l) → R (.returned v') w') :
    Calls Tryd.prog 46 #[v] w R := by
  obtain ⟨A, c, rfl, hm, hcap, h⟩ := h.cases_
  have HR := Lib.hid hR
  have H := Lib.hid h
  have Hok := Lib.hid hok
  have Hwide := Lib.hid hwide
  have hfew := hok.few
  have hblen := bunB_len hok
  have hilen := idxL_len hok
  have hnd := bun_nodup hok
  have hps := pairs_some hok
  clear hR h hok hwide
  go_enter Tryd.func46, Tryd.ntmps46
  go_wp2_with fail
  refine index_calls l _ _ H.out hps _ (fun _ w1 v1 hb1 hown => ?_) (fun hbad => absurd hnd hbad)
  obtain ⟨A1, c1, rfl⟩ := own_slice hown
  have Hown := Lib.hid hown
  have Hb1 := Lib.hid hb1
  have hob : OB w1.heap.size (.slice (some ⟨w1.heap.size, 0, none⟩) 3 3) [76, 73, 66] w1 (w1.alloc (Obj.cells #[.int .u8 76, .int .u8 73, .int .u8 66] 5 (3, 4))) := by
    refine ⟨.inr ⟨by decide, by decide, w1.heap.size, _, _, rfl, Nat.le_refl _, heap_alloc_new _ _, rfl⟩, (Below.refl _ _).alloc (Nat.le_refl _) _, Nat.le_refl _⟩
  have hcv : (convert 39 39 (.slice (some ⟨w1.heap.size, 0, none⟩) 3 3)).run Tryd.prog (w1.alloc (Obj.cells #[.int .u8 76, .int .u8 73, .int .u8 66] 5)) = .ok (.slice (some ⟨w1.heap.size, 0, none⟩) 3 3) (w1.alloc (Obj.cells #[.int .u8 76, .int .u8 73, .int .u8 66] 5 (3, 4))) := by
    have := Lib.run_convert_bytes_const (P := Tryd.prog) w1 39 5 #[.int .u8 76, .int .u8 73, .int .u8 66] 3 3 Tryd.underlying39 Tryd.underlying5
    simpa using this
  have Hob := Lib.hid hob
  have i0 : (l.length : Int) ≤ 12 := by omega
  have i1 : ((idxL l).length : Int) ≤ 480 := by omega
  clear hown hb1 hob hnd hps
  go_wp2_with fail
  refine bNumber_calls _ [76, 73, 66] l.length w1.heap.size _ Hob.out.buf (by omega) (by decide) Hob.out.base _ (fun w2 v2 hg2 hb2 hc2 => ?_)
  have hob2 := Hob.out.app hb2 hg2
  have hl2 := numB_len l.length
  obtain ⟨A2, c2, rfl⟩ := hb2.slice
  have Hob2 := Lib.hid hob2
  clear hob2 hg2 hb2 hc2 Hob hcv
  go_wp2_with fail
  refine bNumber_calls _ ([76, 73, 66] ++ numB l.length) (idxL l).length w1.heap.size _ Hob2.out.buf (by omega) (by simp; omega) Hob2.out.base _ (fun w3 v3 hg3 hb3 hc3 => ?_)
  have hob3 := Hob2.out.app hb3 hg3
  have htot : [76, 73, 66] ++ numB l.length ++ numB (idxL l).length ++ ((idxL l).flatMap entB ++ l.flatMap objB) = bunB l := by
    unfold bunB
    simp only [List.append_assoc]
  have Htot := Lib.hid htot
  generalize [76, 73, 66] ++ numB l.length ++ numB (idxL l).length = cur0 at *
  obtain ⟨A3, c3, rfl⟩ := hb3.slice
  have Hob3 := Lib.hid hob3
  clear hob3 hg3 hb3 hc3 Hob2 htot hl2
  go_upto_block 0 with fail
  go_cut [5] (fun s5 wx => ∃ cur, cur ++ l.flatMap objB = bunB l ∧ OB w1.heap.size s5 cur w1 wx)
  case first =>
    go_wp2_with fail
    go_loopg [5, 7, 28] (idxL l).length (fun gh s5 s7 i wr => ∃ (k : Nat) (cur : List UInt8), k ≤ (idxL l).length ∧ gh = (idxL l).length - k ∧ i = .int .i64 k ∧ cur ++ (((idxL l).drop k).flatMap entB ++ l.flatMap objB) = bunB l ∧ OB w1.heap.size s5 cur w1 wr)
    case atStart => exact ⟨0, _, Nat.zero_le _, rfl, rfl, Htot.out, Hob3.out⟩
    case round =>
      obtain ⟨k, cur, hk, rfl, rfl, hcur, hob⟩ := hrel
      have hcl : cur.length ≤ 160000000 := by have := congrArg List.length hcur; rw [List.length_append] at this; omega
      obtain ⟨A6, c6, rfl⟩ := hob.buf.slice
      have Hcur := Lib.hid hcur
      have Hob := Lib.hid hob
      have j1 : (0 : Int) ≤ (k : Int) := Int.natCast_nonneg _
      clear hcur hob
      by_cases hlt : k < (idxL l).length
      · obtain ⟨x, hx⟩ : ∃ x, (idxL l)[k]? = some x := ⟨_, List.getElem?_eq_getElem hlt⟩
        have hsz := idx_size Hok.out (List.mem_of_getElem? hx)
        obtain ⟨g, rfl, hbg, hgl, hnc, p0, p1⟩ := own_ent Hown.out hx
        have p0 := (Hob.out.bel.cell (p := ⟨g, k * 2, none⟩) hgl).trans p0
        have p1 := (Hob.out.bel.cell (p := ⟨g, k * 2 + 1, none⟩) hgl).trans p1
        have hst := flat_step entB hx
        have Hst := Lib.hid hst
        obtain ⟨nm, ow⟩ := x
        simp only [] at hsz p0 p1
        have j2 : (k : Int) < ((idxL l).length : Int) := by omega
        have o0 : (0 : Int) ≤ (ow : Int) := Int.natCast_nonneg _
        have o1 : (ow : Int) < 12 := by omega
        have o2 : IntKind.u64.wrap (ow : Int) = (ow : Int) := by rw [IntKind.wrap_u64]; omega
        obtain ⟨wa, hwa⟩ : ∃ wa, wa = wr.alloc (Obj.cells #[.string nm, .int .i64 (ow : Int)] 125) := ⟨_, rfl⟩
        have hV : wa.heap[wr.heap.size]? = some (.cells #[.string nm, .int .i64 (ow : Int)] 125 (0, 0)) := by subst hwa; exact heap_alloc_new _ _
        have hba : Below wr.heap.size wr wa := by subst hwa; exact (by repeat (first | exact Below.refl _ _ | assumption | refine below_drewN ?_ _ | refine Below.drew ?_ | refine Below.setCell ?_ (by first | omega | (simp; done) | (simp; omega)) _ | refine Below.alloc ?_ (by first | omega | (simp; done) | (simp; omega)) _ | refine below_step (by assumption) ?_ (by first | omega | (simp; done) | (simp; omega))))
        have hoba := Hob.out.below hba
        have Hoba := Lib.hid hoba
        have Hobd := Lib.hid (hoba.below (w' := wa.drew) ((Below.refl _ _).drew))
        have hVl := blk_lt hV
        have hne : (Value.slice A6 cur.length c6).ownBlock ≠ some wr.heap.size := fun e => by have := (Hob.out.buf.lt _ e).2; omega
        have Hne := Lib.hid hne
        have HSS : Hid (∀ W : World, W.heap[wr.heap.size]? = wa.heap[wr.heap.size]? → (fun W : World => W.cell? ⟨wr.heap.size, 0, none⟩ = some (.string nm) ∧ W.cell? ⟨wr.heap.size, 1, none⟩ = some (.int .i64 (ow : Int))) W) := Lib.hid fun W hW => cells_blk (hW.trans hV)
        have HW := Lib.hid hwa.symm
        have hS0 := HSS.out wa.drew rfl
        have hSa := HSS.out wa rfl
        have hnm : nm.size ≤ 1099511627776 := by omega
        have hcb : cur.length ≤ 1099511627776 := by omega
        clear hx hst hwa hV hba hoba hne
        go_upto_region 6 with fail
        rw [HW.out]
        clear p0 p1
        go_region_held3 (fun W : World => W.cell? ⟨wr.heap.size, 0, none⟩ = some (.string nm) ∧ W.cell? ⟨wr.heap.size, 1, none⟩ = some (.int .i64 (ow : Int))) (first | exact hS0 | exact hSa | exact hS5 | exact hS6) (first
          | (go_at_call 72; with_reducible refine bunText_calls _ cur nm w1.heap.size _ (by first | with_reducible exact Hoba.out.buf | with_reducible exact Hobd.out.buf) hcb hnm (by first | with_reducible exact Hoba.out.base | with_reducible exact Hobd.out.base) _ ?_; intro w5 v5 hg5 hb5 hc5; have hgg5 : Grew (fun k => (Value.slice A6 cur.length c6).ownBlock = some k) wa w5 := (by first | with_reducible exact hg5 | with_reducible exact hg5.of_drew); have hS5 := HSS.out w5 (hgg5.block _ hVl Hne.out); have Hob5 := Lib.hid (Hoba.out.app hb5 hgg5); have HB5 := Lib.hid (hgg5.block _ hVl Hne.out); have hz5 := hgg5.size; have hcc5 : Came wa (Value.slice A6 cur.length c6) v5 := (by first | with_reducible exact hc5 | with_reducible exact Came.of_drew hc5); have Hne5 := Lib.hid (hcc5.ne Hne.out hVl); clear hg5 hb5 hc5 hgg5 hcc5)
          | (go_at_call 71; with_reducible refine bNumber_calls _ (cur ++ textB nm) ow w1.heap.size _ Hob5.out.buf (by omega) (by have := textB_len nm; rw [List.length_append]; omega) Hob5.out.base _ ?_; intro w6 v6 hg6 hb6 hc6; have Hob6 := Lib.hid (Hob5.out.app hb6 hg6); have hS6 := HSS.out w6 ((hg6.block _ (by omega) Hne5.out).trans HB5.out); clear hg6 hb6 hc6))
        all_goals
          go_wp2
          go_roundg ((idxL l).length - (k + 1))
          case measure => omega
          case rel => exact ⟨k + 1, _, hlt, rfl, by go_num, by rw [← Hcur.out, Hst.out]; unfold entB; simp only [List.append_assoc], Hob6.out⟩
      · obtain rfl : k = (idxL l).length := by omega
        rw [List.drop_length] at Hcur
        have j2 : ¬ ((idxL l).length : Int) < ((idxL l).length : Int) := by omega
        go_wp2
        go_meet
        exact ⟨_, Hcur.out, Hob.out⟩
  case rest =>
    obtain ⟨cur1, hcur1, hob1⟩ := hcut
    rename World => wc
    have Hcur1 := Lib.hid hcur1
    have Hob1 := Lib.hid hob1
    clear hcur1 hob1 Hob3 Htot
    go_upto_block 2 with fail
    go_cut [5] (fun s5 wx => OB w1.heap.size s5 (bunB l) w1 wx)
    case first =>
      go_wp2_with fail
      go_loopg [5, 9, 43] l.length (fun gh s5 s9 i wr => ∃ (k : Nat) (cur : List UInt8), k ≤ l.length ∧ gh = l.length - k ∧ i = .int .i64 k ∧ cur ++ (l.drop k).flatMap objB = bunB l ∧ OB w1.heap.size s5 cur w1 wr)
      case atStart => exact ⟨0, _, Nat.zero_le _, rfl, rfl, Hcur1.out, Hob1.out⟩
      case round =>
        obtain ⟨k, cur, hk, rfl, rfl, hcur, hob⟩ := hrel
        have hcl : cur.length ≤ 160000000 := by have := congrArg List.length hcur; rw [List.length_append] at this; omega
        obtain ⟨A6, c6, rfl⟩ := hob.buf.slice
        have hbw := Hb1.out.trans (hob.bel.mono Hb1.out.size)
        have Hcur := Lib.hid hcur
        have Hob := Lib.hid hob
        have j1 : (0 : Int) ≤ (k : Int) := Int.natCast_nonneg _
        clear hcur hob
        by_cases hlt : k < l.length
        · obtain ⟨b, off, o, v1, v2, rfl, hb, e, h1, h2, r0, r1⟩ := H.out.object_at hlt
          have p0 := (hbw.cell (p := ⟨b, off + k * 2, none⟩) hb).trans r0
          have p1 := (hbw.cell (p := ⟨b, off + k * 2 + 1, none⟩) hb).trans r1
          have j2 : (k : Int) < (l.length : Int) := by omega
          have hst := flat_step objB e
          have Hst := Lib.hid hst
          have hoo := (Hok.out.each k o e).ok
          have hwo := Hwide.out o (List.mem_of_getElem? e)
          have hsl : (savedB o).length ≤ 13000002 := by
            have h5 := bodyB_len hoo
            have h6 : (savedB o).length = (bodyB o).length + 2 := by unfold savedB sumB; simp
            omega
          obtain ⟨wa, hwa⟩ : ∃ wa, wa = wr.alloc (Obj.cells #[v1, v2] 47) := ⟨_, rfl⟩
          have hV : wa.heap[wr.heap.size]? = some (.cells #[v1, v2] 47 (0, 0)) := by subst hwa; exact heap_alloc_new _ _
          have hba : Below wr.heap.size wr wa := by subst hwa; exact (by repeat (first | exact Below.refl _ _ | assumption | refine below_drewN ?_ _ | refine Below.drew ?_ | refine Below.setCell ?_ (by first | omega | (simp; done) | (simp; omega)) _ | refine Below.alloc ?_ (by first | omega | (simp; done) | (simp; omega)) _ | refine below_step (by assumption) ?_ (by first | omega | (simp; done) | (simp; omega))))
          have Hoba := Lib.hid (Hob.out.below hba)
          have hba0 := hbw.trans (hba.mono hbw.size)
          have H1 := Lib.hid (h1.up hba0 hba0.size)
          have H2 := Lib.hid (h2.up hba0 hba0.size)
          obtain ⟨B1, n1, rfl, _, _, _⟩ := h1.cases_
          obtain ⟨B2, n2, rfl, _, _, _⟩ := h2.cases_
          have HW := Lib.hid hwa.symm
          obtain ⟨c0, c1⟩ := cells_blk hV
          have Hoo := Lib.hid hoo
          have Hwo := Lib.hid hwo
          clear r0 r1 e hst hwa hV hba hba0 h1 h2 hoo hwo
          go_upto_region 11 with fail
          rw [HW.out]
          clear p0 p1
          go_wp2_with fail
          refine Saved_calls o _ _ _ H1.out H2.out Hoo.out Hwo.out _ (fun w5 v5 hb5 hbuf5 => ?_)
          have Hob5 := Lib.hid (Hoba.out.below hb5)
          have hcv := conv_bytes (P := Tryd.prog) Tryd.underlying39 Tryd.underlying5 Tryd.underlying9 (hbuf5.SL (Nat.le_refl _))
          obtain ⟨A7, c7, rfl⟩ := hbuf5.slice
          have hss : (strL (savedB o)).size ≤ 1099511627776 := by rw [strL_size]; omega
          clear hb5 hbuf5 c0 c1
          go_wp2_with fail
          refine bunText_calls _ cur (strL (savedB o)) w1.heap.size _ Hob5.out.buf (by omega) hss Hob5.out.base _ (fun w6 v6 hg6 hb6 hc6 => ?_)
          have Hob6 := Lib.hid (Hob5.out.app hb6 hg6)
          clear hg6 hb6 hc6 hcv
          go_wp2
          go_roundg (l.length - (k + 1))
          case measure => omega
          case rel => exact ⟨k + 1, _, hlt, rfl, by go_num, by rw [← Hcur.out, Hst.out]; unfold objB; simp only [List.append_assoc], Hob6.out⟩
        · obtain rfl : k = l.length := by omega
          rw [List.drop_length] at Hcur
          have hcb : cur = bunB l := by have := Hcur.out; simpa using this
          have Hcb := Lib.hid hcb
          have j2 : ¬ (l.length : Int) < (l.length : Int) := by omega
          clear hcb
          go_wp2
          go_meet
          rw [← Hcb.out]
          exact Hob.out
    case rest =>
      rename World => wy
      have hob := hcut
      obtain ⟨A5, c5, rfl⟩ := hob.buf.slice
      have Hob := Lib.hid hob
      have hsum := sumL_lt (bunB l)
      have hbz := hob.base
      have Hend := Lib.hid (Hb1.out.trans (hob.bel.mono Hb1.out.size))
      obtain ⟨sm, hsm⟩ : ∃ sm, sm = sumL (bunB l) := ⟨_, rfl⟩
      have Hsm := Lib.hid hsm
      rw [← hsm] at hsum
      clear hcut hob hsm
      go_wp2_with fail
      refine Sum_calls _ (bunB l) _ (Hob.out.buf.SL (Nat.le_refl _)) _ ?_
      rw [← Hsm.out]
      have i0 : (0 : Int) ≤ (sm : Int) := by omega
      have i1 : (sm : Int) < 65521 := by omega
      have hx : byteCells (UInt8.ofNat (sm / 256)) = [.int .u8 ((sm : Int) / 256)] := by
        rw [cells_ofNat]
        congr 2
        omega
      have hy : byteCells (UInt8.ofNat (sm % 256)) = [.int .u8 ((sm : Int) % 256)] := by
        rw [cells_ofNat]
        congr 2
        omega
      have hsrc := Lib.hid (two_src (w := wy) hx hy)
      have hsv : packB l = bunB l ++ [UInt8.ofNat (sm / 256), UInt8.ofNat (sm % 256)] := by
        unfold packB sumB
        rw [← Hsm.out]
      have Hsv := Lib.hid hsv
      have HBa := Lib.hid (Hob.out.buf.alloc (.cells #[.int .u8 ((sm : Int) / 256), .int .u8 ((sm : Int) % 256)] 5))
      generalize UInt8.ofNat (sm / 256) = x at *
      generalize UInt8.ofNat (sm % 256) = y at *
      clear hx hy hsv
      go_wp2_with (at_builtin; refine wpList_app_buf _ rfl _ _ _ rfl Tryd.underlying39 rfl HBa.out rfl hsrc.out (by simp; omega) (by simp; omega) ?_)
      intro v9 w9 hb9 hg9 hc9
      have hbl := Hb1.out.size
      have hfin := HR.out w9 v9 ((Hend.out.alloc (by have := Hend.out.size; omega) _).trans (hg9.below (fun k hk e => by have := (Hob.out.buf.lt k e).1; omega) (by simp; omega))) (by rw [Hsv.out]; exact hb9.base hbl)
      have Hfin := Lib.hid hfin
      clear hb9 hg9 hc9 hfin
      go_wp2
      exact Hfin.out
end Go.Proofs.YtfhnmbnniklmiaaDoor
