/- object.Loaded: an object out of its bytes. -/
import Derived.Test.YtfhnmbnniklmiaaDoorBase
import Derived.Test.YtfhnmbnniklmiaaDoorRows
import Derived.IntWalk
import Derived.Deep.LoopGhost
import Derived.Outline
import Derived.Test.YtfhnmbnniklmiaaDoorLoad3
namespace Go.Proofs.YtfhnmbnniklmiaaDoor
open Go.RowKit
set_option linter.unusedSimpArgs false
set_option linter.unusedVariables false

theorem or_byte (a b : Nat) (ha : a < 256) (hb : b < 256) : bits .or .i64 ((a : Int) * 256) (b : Int) = ((256 * a + b : Nat) : Int) := by
  have e0 : ((a : Int) * 256) = ((a * 256 : Nat) : Int) := by omega
  have e : bits .or .i64 ((a * 256 : Nat) : Int) (b : Int) = IntKind.i64.wrap ((BitVec.ofInt 64 ((a * 256 : Nat) : Int) ||| BitVec.ofInt 64 (b : Int)).toNat : Nat) := rfl
  rw [e0, e, BitVec.ofInt_natCast, BitVec.ofInt_natCast, BitVec.toNat_or, BitVec.toNat_ofNat, BitVec.toNat_ofNat, Nat.mod_eq_of_lt (show a * 256 < 2 ^ 64 by omega), Nat.mod_eq_of_lt (show b < 2 ^ 64 by omega)]
  have h := Nat.two_pow_add_eq_or_of_lt (i := 8) (b := b) (by simpa using hb) a
  rw [show a * 256 = 2 ^ 8 * a from by omega, ← h, IntKind.wrap_i64]
  omega
theorem byte_get_ {w : World} {B : Nat} {xs : List UInt8} {b off n c k : Nat} (h : rpByte.SL w B xs (.slice (some ⟨b, off, none⟩) n c)) (hk : k < xs.length) : w.cell? ⟨b, off + k, none⟩ = some (.int .u8 ((xs.getD k 0).toNat : Nat)) := by
  obtain ⟨b', o', hA, _, h1⟩ := h.byte_at hk
  injection hA with hA
  injection hA with e1 e2
  subst e1 e2
  rw [h1, List.getD_eq_getElem?_getD, List.getElem?_eq_getElem hk]
  rfl

theorem res_ObjB {fn : Func} {p t : Tmp} (h : fn.results = #[.cell p 47, .tmp t]) {tmps : Array Value} {b : Nat} {w : World} {x y v : Value} {T : TypeId} (hp : tmps.getD p undef = .pointer (some ⟨b, 0, none⟩)) (ht : tmps.getD t undef = v)
    (hc : w.heap[b]? = some (.cells #[x, y] T (0, 0))) : (results fn tmps).run Tryd.prog w = .ok (.tuple #[.agg #[x, y], v]) w := by
  obtain ⟨c0, c1⟩ := cells_blk hc
  rw [Array.getD_eq_getD_getElem?] at hp ht
  simp [results, h, hp, ht, go_sem, c0, c1]

theorem run_conv {P : Program} {ρ : Operand → Value} {o : Oper} {src dst : TypeId} {x : Operand} {u : Value} {w : World} (h : o.op = .convert src dst x) (hc : (convert src dst (ρ x)).run P w = .ok u w) : (execOp ρ o).run P w = .ok (.value u) w := by
  have e : ∀ m : Sem Value, m.run P w = .ok u w → (do pure (Next.value (← m)) : Sem Next).run P w = .ok (.value u) w := by
    intro m hm
    simp [go_sem, hm]
  unfold execOp
  rw [h]
  exact e _ hc
theorem quiet_conv {P : Program} {a : Act} {o : Oper} {K : Act → Prop} {W : World} {src dst : TypeId} {x : Operand} {v u : Value} (h : o.op = .convert src dst x) (hx : a.eval x = v) (hc : ∀ n, (convert src dst v).run P (W.drewN n) = .ok u (W.drewN n))
    (hk : K (a.put o.dst u)) : o.quiet P a (fun w' => ∃ n, w' = W.drewN n) K :=
  ⟨u, fun w hw => by
    obtain ⟨n, rfl⟩ := hw
    unfold Oper.quietAt
    rw [run_conv h (by rw [hx]; exact hc n)]
    exact ⟨rfl, rfl⟩, hk⟩

/-- A fresh list stays while only blocks beyond its own are written. -/
theorem Rp.SLF.keepB {α : Type} {r : Rp α} {w w' : World} {b B : Nat} {xs : List α} {v : Value} (h : r.SLF w b B xs v) (hk : ∀ k, b ≤ k → k < B → w'.heap[k]? = w.heap[k]?) : r.SLF w' b B xs v := Rp.SL.mono h fun p u hp hc => by
  obtain ⟨h1, h2⟩ := only_cell hc
  rw [only_cell_of _ _ _ h2]
  exact (World.cell?_of_block (hk _ (of_decide_eq_true h2) hp)).trans h1

set_option maxRecDepth 100000 in
set_option maxHeartbeats 4000000 in
theorem Loaded_calls (v : Value) (bs : List UInt8) (w : World) (h : rpByte.SL w w.heap.size bs v) (hlen : bs.length ≤ 100000) (R : Ending → World → Prop)
    (hsome : ∀ o, loadedL bs = some o → ∀ w' u1 u2, Below w.heap.size w w' → rpGlobal.SLF w' w.heap.size w'.heap.size o.globals u1 → rpSection.SLF w' w.heap.size w'.heap.size o.sections u2 → R (.returned (.tuple #[.agg #[u1, u2], .bool true])) w')
    (hnone : loadedL bs = none → ∀ w' A1 n1 c1 A2 n2 c2, Below w.heap.size w w' → R (.returned (.tuple #[.agg #[.slice A1 n1 c1, .slice A2 n2 c2], .bool false])) w') :
    Calls Tryd.prog 81 #[v] w R := by
  obtain ⟨A, c, rfl, hm, hcap, h⟩ := h.cases_
  have Hsome := Lib.hid hsome
  have Hnone := Lib.hid hnone
  have H := Lib.hid h
  clear hsome hnone h
  have hk2 : IntKind.i64.wrap ((bs.length : Int) - 2) = (bs.length : Int) - 2 := IntWalk.i64_in _ (by omega)
  by_cases h5 : bs.length < 5
  · have hno : loadedL bs = none := by
      unfold loadedL
      rw [if_neg (by unfold headOk; omega)]
    have hf := Lib.hid (Hnone.out hno)
    have i0 : (bs.length : Int) - 2 < 3 := by omega
    clear hno
    go_enter Tryd.func81, Tryd.ntmps81
    go_wp2
    go_quiet (fail)
    go_wp2
    refine bodyPost_ret (v := .tuple #[.agg #[.slice none 0 0, .slice none 0 0], .bool false]) (res_ObjB (T := 47) (by rfl) (by rfl) (by rfl) ?_) rfl ?_
    · exact blk_set1 (blk_set0 (blk_drewN (heap_alloc_new _ _) _) _) _
    · refine hf.out _ _ _ _ _ _ _ ?_
      exact (by repeat (first | exact Below.refl _ _ | assumption | refine below_drewN ?_ _ | refine Below.drew ?_ | refine Below.setCell ?_ (by first | omega | (simp; done) | (simp; omega)) _ | refine Below.alloc ?_ (by first | omega | (simp; done) | (simp; omega)) _ | refine below_step (by assumption) ?_ (by first | omega | (simp; done) | (simp; omega))))
  · obtain ⟨K, hK⟩ : ∃ K, bs.length = K + 2 := ⟨bs.length - 2, by omega⟩
    obtain ⟨b, off, rfl, hb, hcell0⟩ := H.out.byte_at (k := 0) (by omega)
    clear hcell0
    have HA : Hid (∀ W, Below w.heap.size w W → rpByte.SL W W.heap.size bs (.slice (some ⟨b, off, none⟩) bs.length c)) := Lib.hid fun W h => H.out.up h h.size
    obtain ⟨wa, hwa⟩ : ∃ wa, wa = w.alloc (Obj.cells #[.slice none 0 0, .slice none 0 0] 47) := ⟨_, rfl⟩
    have hbwa : Below w.heap.size w wa := by subst hwa; exact (by repeat (first | exact Below.refl _ _ | assumption | refine below_drewN ?_ _ | refine Below.drew ?_ | refine Below.setCell ?_ (by first | omega | (simp; done) | (simp; omega)) _ | refine Below.alloc ?_ (by first | omega | (simp; done) | (simp; omega)) _ | refine below_step (by assumption) ?_ (by first | omega | (simp; done) | (simp; omega))))
    have hQ : wa.heap[w.heap.size]? = some (.cells #[.slice none 0 0, .slice none 0 0] 47 (0, 0)) := by subst hwa; exact heap_alloc_new _ _
    have hza : wa.heap.size = w.heap.size + 1 := by subst hwa; simp
    have HQ := Lib.hid hQ
    obtain ⟨q0, q1, z0, z1⟩ := cells_of_block hQ
    have hwz : w.heap.size < wa.heap.size := by omega
    have HW := Lib.hid hwa.symm
    have Hbwa := Lib.hid hbwa
    have HK := Lib.hid hK
    have i0 : ¬ ((bs.length : Int) - 2) < 3 := by omega
    have cb0 : decide (((bs.length : Int) - 2) < 3) = false := decide_eq_false i0
    have i1 : (3 : Int) ≤ (c : Int) := by omega
    have i2 : ((bs.length : Int) - 2) < (bs.length : Int) := by omega
    have i3 : ((bs.length : Int) - 2) + 1 < (bs.length : Int) := by omega
    have i3' : ((bs.length : Int) - 1) < (bs.length : Int) := by omega
    have i4 : (0 : Int) ≤ ((bs.length : Int) - 2) := by omega
    have i4' : (0 : Int) ≤ ((bs.length : Int) - 1) := by omega
    have i5 : ((bs.length : Int) - 2) ≤ (c : Int) := by omega
    have i6 : (0 : Int) ≤ ((bs.length : Int) - 2) + 1 := by omega
    have i7 : ((bs.length : Int) - 2).toNat = K := by omega
    have i8 : (((bs.length : Int) - 2) + 1).toNat = K + 1 := by omega
    have i8' : ((bs.length : Int) - 1).toNat = K + 1 := by omega
    have hk4 : IntKind.i64.wrap (((bs.length : Int) - 2) + 1) = ((bs.length : Int) - 2) + 1 := IntWalk.i64_in _ (by omega)
    have HCV : Hid (∀ n, (convert 39 9 (.slice (some ⟨b, off, none⟩) 3 c)).run Tryd.prog (wa.drewN n) = .ok (.string (strL (bs.take 3))) (wa.drewN n)) := Lib.hid fun n => conv_bytes (P := Tryd.prog) Tryd.underlying39 Tryd.underlying5 Tryd.underlying9 ((HA.out _ (below_drewN hbwa n)).take_ (k := 3) (by omega))
    have HSS : Hid (∀ W, Below w.heap.size w W → (fun W => W.cell? ⟨b, off + K, none⟩ = some (.int .u8 ((bs.getD K 0).toNat : Nat)) ∧ W.cell? ⟨b, off + (K + 1), none⟩ = some (.int .u8 ((bs.getD (K + 1) 0).toNat : Nat)) ∧ (convert 39 9 (.slice (some ⟨b, off, none⟩) 3 c)).run Tryd.prog W = .ok (.string (strL (bs.take 3))) W) W) := Lib.hid fun W h => ⟨byte_get_ (HA.out _ h) (k := K) (by omega), byte_get_ (HA.out _ h) (k := K + 1) (by omega), conv_bytes (P := Tryd.prog) Tryd.underlying39 Tryd.underlying5 Tryd.underlying9 ((HA.out _ h).take_ (k := 3) (by omega))⟩
    have hS0 := HSS.out wa hbwa
    have hS1 := HSS.out wa.drew hbwa.drew
    have hx0 := (bs.getD K 0).toNat_lt
    have hx1 := (bs.getD (K + 1) 0).toNat_lt
    by_cases hhd : bs.take 3 = [79, 66, 74]
    rotate_left
    · have hno : loadedL bs = none := by
        unfold loadedL
        rw [if_neg (by unfold headOk; intro h; exact hhd h.2.1)]
      have hf := Lib.hid (Hnone.out hno)
      have htl : ((strL (bs.take 3)).toList == [79, 66, 74]) = false := by
        rw [ByteArray.toList_eq]
        simp [strL, hhd]
      clear hno hhd hQ hwa hbwa hK
      go_enter Tryd.func81, Tryd.ntmps81
      go_wp2
      rw [HW.out]
      refine wp_region_quiet_lit (by kernel_rfl) (by kernel_rfl) ?_
      iterate 5 go_big_quiet_step (fail)
      go_big_quiet_want
      refine quiet_conv (v := .slice (some ⟨b, off, none⟩) 3 c) rfl rfl HCV.out ?_
      simp only [Act.put, List.setIfInBounds_toArray, List.set_cons_succ, List.set_cons_zero]
      go_big_quiet_on
      repeat (go_big_quiet_step (fail))
      refine wpQuiet_nil ?_
      intro _ hw'
      obtain ⟨nq, hw''⟩ := hw'
      subst hw''
      go_wp2
      refine bodyPost_ret (v := .tuple #[.agg #[.slice none 0 0, .slice none 0 0], .bool false]) (res_ObjB (T := 47) (by rfl) (by rfl) (by rfl) ?_) rfl ?_
      · exact blk_set1 (blk_set0 (blk_drewN HQ.out _) _) _
      · refine hf.out _ _ _ _ _ _ _ ?_
        have hb := Hbwa.out
        exact (by repeat (first | exact Below.refl _ _ | assumption | refine below_drewN ?_ _ | refine Below.drew ?_ | refine Below.setCell ?_ (by first | omega | (simp; done) | (simp; omega)) _ | refine Below.alloc ?_ (by first | omega | (simp; done) | (simp; omega)) _ | refine below_step (by assumption) ?_ (by first | omega | (simp; done) | (simp; omega))))
    · have htl : ((strL (bs.take 3)).toList == [79, 66, 74]) = true := by
        rw [ByteArray.toList_eq]
        simp [strL, hhd]
      have hsl := sumL_lt (bs.take K)
      have hor := or_byte _ _ hx0 hx1
      generalize hxx : (bs.getD K 0).toNat = x at *
      generalize hyy : (bs.getD (K + 1) 0).toNat = y at *
      have Hxx := Lib.hid hxx
      have Hyy := Lib.hid hyy
      have j0 : (0 : Int) ≤ (x : Int) := by omega
      have j1 : (x : Int) < 256 := by omega
      have j2 : (0 : Int) ≤ (y : Int) := by omega
      have j3 : (y : Int) < 256 := by omega
      have HS : Hid (∀ W, Below w.heap.size w W → Calls Tryd.prog 74 #[.slice (some ⟨b, off, none⟩) K c] W fun e w' => e = .returned (.int .i64 (sumL (bs.take K) : Nat)) ∧ w' = W) := Lib.hid fun W h => Sum_calls _ (bs.take K) W ((HA.out W h).take_ (by omega)) _ ⟨rfl, rfl⟩
      by_cases hsm : sumL (bs.take K) = 256 * x + y
      rotate_left
      · have hno : loadedL bs = none := by
          unfold loadedL
          rw [if_neg (by
            unfold headOk
            rw [hK, show K + 2 - 2 = K from rfl, show K + 2 - 1 = K + 1 from rfl, hxx, hyy]
            exact fun h => hsm h.2.2)]
        have hf := Lib.hid (Hnone.out hno)
        have hne : ((sumL (bs.take K) : Int) != ((256 * x + y : Nat) : Int)) = true := by simp; omega
        clear hno hhd hQ hwa hbwa hK hsm hxx hyy
        generalize sumL (bs.take K) = sm at *
        go_enter Tryd.func81, Tryd.ntmps81
        go_wp2
        rw [HW.out]
        refine wp_region_quiet_lit (by kernel_rfl) (by kernel_rfl) ?_
        iterate 5 go_big_quiet_step (fail)
        go_big_quiet_want
        refine quiet_conv (v := .slice (some ⟨b, off, none⟩) 3 c) rfl rfl HCV.out ?_
        simp only [Act.put, List.setIfInBounds_toArray, List.set_cons_succ, List.set_cons_zero]
        go_big_quiet_on
        repeat (go_big_quiet_step ((go_at_call 74; exact Calls.quiet_of_same (HS.out _ (below_drewN Hbwa.out _)))))
        refine wpQuiet_nil ?_
        intro _ hw'
        obtain ⟨nq, hw''⟩ := hw'
        subst hw''
        go_wp2
        refine bodyPost_ret (v := .tuple #[.agg #[.slice none 0 0, .slice none 0 0], .bool false]) (res_ObjB (T := 47) (by rfl) (by rfl) (by rfl) ?_) rfl ?_
        · exact blk_set1 (blk_set0 (blk_drewN HQ.out _) _) _
        · refine hf.out _ _ _ _ _ _ _ ?_
          have hb := Hbwa.out
          exact (by repeat (first | exact Below.refl _ _ | assumption | refine below_drewN ?_ _ | refine Below.drew ?_ | refine Below.setCell ?_ (by first | omega | (simp; done) | (simp; omega)) _ | refine Below.alloc ?_ (by first | omega | (simp; done) | (simp; omega)) _ | refine below_step (by assumption) ?_ (by first | omega | (simp; done) | (simp; omega))))
      · have hne : ((sumL (bs.take K) : Int) != ((256 * x + y : Nat) : Int)) = false := by simp; omega
        have HLd : Hid (loadedL bs = objectL ((bs.take K).drop 3)) := Lib.hid (by
          unfold loadedL
          rw [if_pos, hK, show K + 2 - 2 = K from rfl]
          unfold headOk
          rw [hK, show K + 2 - 2 = K from rfl, show K + 2 - 1 = K + 1 from rfl, hxx, hyy]
          exact ⟨by omega, hhd, hsm⟩)
        clear hhd hQ hwa hbwa hK hsm hxx hyy
        generalize hsml : sumL (bs.take K) = sm at *
        clear hsml
        go_enter Tryd.func81, Tryd.ntmps81
        go_wp2
        rw [HW.out]
        refine wp_region_quiet_lit (by kernel_rfl) (by kernel_rfl) ?_
        iterate 5 go_big_quiet_step (fail)
        go_big_quiet_want
        refine quiet_conv (v := .slice (some ⟨b, off, none⟩) 3 c) rfl rfl HCV.out ?_
        simp only [Act.put, List.setIfInBounds_toArray, List.set_cons_succ, List.set_cons_zero]
        go_big_quiet_on
        repeat (go_big_quiet_step ((go_at_call 74; exact Calls.quiet_of_same (HS.out _ (below_drewN Hbwa.out _)))))
        refine wpQuiet_nil ?_
        intro _ hw'
        obtain ⟨nq, hw''⟩ := hw'
        subst hw''
        go_wp2_with fail
        obtain ⟨L, hL⟩ : ∃ L, L = (bs.take K).drop 3 := ⟨_, rfl⟩
        have hLl : L.length ≤ 100000 := by subst hL; rw [List.length_drop, List.length_take]; omega
        obtain ⟨wr, hwr⟩ : ∃ wr, wr = (wa.drewN nq).alloc (Obj.cells #[.slice (some ⟨b, off + 3, none⟩) (K - 3) (c - 3), .bool false] 172) := ⟨_, rfl⟩
        rw [← hwr]
        have hzr : wr.heap.size = w.heap.size + 2 := by subst hwr; simp; omega
        have hbr : Below w.heap.size w wr := by
          subst hwr
          have hb := Hbwa.out
          exact (by repeat (first | exact Below.refl _ _ | assumption | refine below_drewN ?_ _ | refine Below.drew ?_ | refine Below.setCell ?_ (by first | omega | (simp; done) | (simp; omega)) _ | refine Below.alloc ?_ (by first | omega | (simp; done) | (simp; omega)) _ | refine below_step (by assumption) ?_ (by first | omega | (simp; done) | (simp; omega))))
        have hQr : wr.heap[w.heap.size]? = some (.cells #[.slice none 0 0, .slice none 0 0] 47 (0, 0)) := by subst hwr; exact blk_alloc (blk_drewN HQ.out _) _
        have hRr : Rd wr (w.heap.size + 1) L false := by
          refine ⟨_, 172, by subst hwr; have := heap_alloc_new (wa.drewN nq) (Obj.cells #[.slice (some ⟨b, off + 3, none⟩) (K - 3) (c - 3), .bool false] 172); rw [show (wa.drewN nq).heap.size = w.heap.size + 1 from hza] at this; exact this, ?_⟩
          have hk := HK.out
          have h1 := H.out.up hbr (show w.heap.size ≤ w.heap.size + 1 by omega)
          have h2 := h1.take_ (k := K) (by omega)
          have h3 := h2.drop_ (k := 3) (by rw [List.length_take]; omega) (off + 3) (fun _ => rfl)
          rw [hL]
          exact h3
        have HQr := Lib.hid hQr
        have HRr := Lib.hid hRr
        have Hbr := Lib.hid hbr
        have HLo : Hid (loadedL bs = objectL L) := Lib.hid (by rw [hL]; exact HLd.out)
        clear hQr hRr hbr hwr hL hwz q0 q1 z0 z1
        refine listGlobal_calls (w.heap.size + 1) L false _ HRr.out (fun _ => hLl) _ (fun gs r1 q1 a0 a1 w1 v1 hg1 hr1 hs1 => ?_)
        obtain ⟨B1, m1, rfl, _, _, hs1⟩ := hs1.cases_
        have hz1 := hg1.size
        have hQ1 := gr_blk hg1 HQr.out (by omega)
        obtain ⟨W1, hW1⟩ : ∃ W1, W1 = w1.alloc (Obj.cells #[.slice B1 gs.length m1, .slice none 0 0] 47) := ⟨_, rfl⟩
        have hzW1 : W1.heap.size = w1.heap.size + 1 := by subst hW1; simp
        have hQ2 : W1.heap[w.heap.size]? = some (.cells #[.slice none 0 0, .slice none 0 0] 47 (0, 0)) := by subst hW1; exact blk_alloc hQ1 _
        have hO2 : W1.heap[w1.heap.size]? = some (.cells #[.slice B1 gs.length m1, .slice none 0 0] 47 (0, 0)) := by subst hW1; exact heap_alloc_new _ _
        have hr2 : Rd W1 (w.heap.size + 1) r1 q1 := by subst hW1; exact rd_alloc hr1 _
        have hs2 : rpGlobal.SLF W1 (w.heap.size + 2) w1.heap.size gs (.slice B1 gs.length m1) := by
          subst hW1
          exact ((hs1.keepB (w' := w1.alloc _) fun k _ hk => Below.heap_alloc _ _ _ hk).more (by omega) (Nat.le_refl _))
        have hb1 : Below w.heap.size w W1 := by
          subst hW1
          have hb := Hbr.out
          have hb' := grown_below hg1 (B := w.heap.size) (by omega) (by omega)
          exact (hb.trans hb').alloc (by omega) _
        have A0 := Lib.hid a0
        have A1 := Lib.hid a1
        have HQ2 := Lib.hid hQ2
        have HO2 := Lib.hid hO2
        have Hr2 := Lib.hid hr2
        have Hs2 := Lib.hid hs2
        have Hb1 := Lib.hid hb1
        have HW1 := Lib.hid hW1.symm
        clear a0 a1 hg1 hr1 hs1 hQ1 hQ2 hO2 hr2 hs2 hb1 hW1
        go_wp2_with fail
        rw [HW1.out]
        refine listSection_calls (w.heap.size + 1) r1 q1 _ Hr2.out (fun hq => by
          have := listL_short globalL_short _ _ _ (A0.out hq).2
          omega) _ (fun ss r2 q2 b0 b1 w2 v2 hg2 hr2 hs3 => ?_)
        obtain ⟨B2, m2, rfl, _, _, hs3⟩ := hs3.cases_
        have hz2 := hg2.size
        have hQ3 := gr_blk hg2 HQ2.out (by omega)
        have hO3 := gr_blk hg2 HO2.out (by omega)
        have hb2 : Below w.heap.size w w2 := Hb1.out.trans (grown_below hg2 (by omega) (by omega))
        have hs4 : rpGlobal.SLF w2 (w.heap.size + 2) w1.heap.size gs (.slice B1 gs.length m1) := Hs2.out.keepB fun k hk hk2 => hg2.block k (by omega) (by intro e; injection e with e; omega)
        obtain ⟨q0, q1', z0, z1⟩ := cells_of_block hQ3
        obtain ⟨o0, o1, y0, y1⟩ := cells_of_block hO3
        obtain ⟨vr, Tr, hbr2, hsr2⟩ := id hr2
        obtain ⟨A9, n9, rfl, _, _, _⟩ := hsr2.cases_
        obtain ⟨e0, e1, x0, x1⟩ := cells_of_block hbr2
        have HQ3 := Lib.hid hQ3
        have Hb2 := Lib.hid hb2
        have Hs3 := Lib.hid hs3
        have Hs4 := Lib.hid hs4
        have B0 := Lib.hid b0
        have B1' := Lib.hid b1
        have hne1 : w.heap.size + 1 < w1.heap.size := by omega
        have hne2 : w1.heap.size < w2.heap.size := by omega
        clear hg2 hr2 hQ3 hO3 hb2 hs3 hs4 b0 b1 hbr2 hsr2
        have hObj : q2 = true ∨ r2 ≠ [] → loadedL bs = none := fun hx => by
          rw [HLo.out]
          unfold objectL
          cases q1 with
          | true =>
            rcases A1.out rfl with h | h
            · cases h
            · rw [h]
              rfl
          | false =>
            rw [(A0.out rfl).2]
            simp only [Option.bind_some]
            cases q2 with
            | true =>
              rcases B1'.out rfl with h | h
              · cases h
              · rw [h]
                rfl
            | false =>
              rw [(B0.out rfl).2]
              simp only [Option.bind_some]
              rw [if_neg (by rcases hx with hx | hx; cases hx; exact hx)]
        have HObj := Lib.hid hObj
        clear hObj
        cases q2
        · by_cases hr0 : r2 = []
          · subst hr0
            have hyes : loadedL bs = some ⟨gs, ss⟩ := by
              obtain ⟨h1, h2⟩ := B0.out rfl
              obtain ⟨_, h3⟩ := A0.out h1
              rw [HLo.out]
              unfold objectL
              rw [h3]
              simp only [Option.bind_some]
              rw [h2]
              rfl
            have hf := Lib.hid (Hsome.out _ hyes)
            clear hyes HObj
            simp only [List.length_nil] at *
            go_wp2
            go_region
            all_goals
              go_wp2
              refine bodyPost_ret (v := .tuple #[.agg #[.slice B1 gs.length m1, .slice B2 ss.length m2], .bool true]) (res_ObjB (T := 47) (by rfl) (by rfl) (by rfl) ?_) rfl ?_
              · exact (by repeat (first | with_reducible exact HQ3.out | with_reducible refine blk_drew ?_ | with_reducible refine blk_drewN ?_ _ | with_reducible refine blk_alloc ?_ _ | with_reducible apply blk_set1 | with_reducible apply blk_set0 | with_reducible refine blk_other ?_ (by first | (simp; done) | omega | (simp; omega)) _))
              · refine hf.out _ _ _ ?_ ?_ ?_
                · have hb := Hb2.out
                  exact (by repeat (first | exact Below.refl _ _ | assumption | refine below_drewN ?_ _ | refine Below.drew ?_ | refine Below.setCell ?_ (by first | omega | (simp; done) | (simp; omega)) _ | refine Below.alloc ?_ (by first | omega | (simp; done) | (simp; omega)) _ | refine below_step (by assumption) ?_ (by first | omega | (simp; done) | (simp; omega))))
                · refine (Hs4.out.keepB fun k hk1 hk2 => ?_).more (by omega) (by simp [World.setCell]; omega)
                  obtain ⟨X, hX⟩ : ∃ X, w2.heap[k]? = some X := ⟨_, Array.getElem?_eq_getElem (by omega)⟩
                  rw [hX]
                  exact (by repeat (first | with_reducible exact hX | with_reducible refine blk_drew ?_ | with_reducible refine blk_drewN ?_ _ | with_reducible refine blk_alloc ?_ _ | with_reducible apply blk_set1 | with_reducible apply blk_set0 | with_reducible refine blk_other ?_ (by first | (simp; done) | omega | (simp; omega)) _))
                · refine (Hs3.out.keepB fun k hk1 hk2 => ?_).more (by omega) (by simp [World.setCell])
                  obtain ⟨X, hX⟩ : ∃ X, w2.heap[k]? = some X := ⟨_, Array.getElem?_eq_getElem (by omega)⟩
                  rw [hX]
                  exact (by repeat (first | with_reducible exact hX | with_reducible refine blk_drew ?_ | with_reducible refine blk_drewN ?_ _ | with_reducible refine blk_alloc ?_ _ | with_reducible apply blk_set1 | with_reducible apply blk_set0 | with_reducible refine blk_other ?_ (by first | (simp; done) | omega | (simp; omega)) _))
          · have hf := Lib.hid (Hnone.out (HObj.out (.inr hr0)))
            have hpos : ((r2.length : Int) == 0) = false := by have := List.length_pos_iff.2 hr0; simp; omega
            clear HObj hr0
            go_wp2
            go_region
            all_goals
              go_wp2
              refine bodyPost_ret (v := .tuple #[.agg #[.slice B1 gs.length m1, .slice B2 ss.length m2], .bool false]) (res_ObjB (T := 47) (by rfl) (by rfl) (by rfl) ?_) rfl ?_
              · exact (by repeat (first | with_reducible exact HQ3.out | with_reducible refine blk_drew ?_ | with_reducible refine blk_drewN ?_ _ | with_reducible refine blk_alloc ?_ _ | with_reducible apply blk_set1 | with_reducible apply blk_set0 | with_reducible refine blk_other ?_ (by first | (simp; done) | omega | (simp; omega)) _))
              · refine hf.out _ _ _ _ _ _ _ ?_
                have hb := Hb2.out
                exact (by repeat (first | exact Below.refl _ _ | assumption | refine below_drewN ?_ _ | refine Below.drew ?_ | refine Below.setCell ?_ (by first | omega | (simp; done) | (simp; omega)) _ | refine Below.alloc ?_ (by first | omega | (simp; done) | (simp; omega)) _ | refine below_step (by assumption) ?_ (by first | omega | (simp; done) | (simp; omega))))
        · have hf := Lib.hid (Hnone.out (HObj.out (.inl rfl)))
          clear HObj
          go_wp2
          go_region
          all_goals
            go_wp2
            refine bodyPost_ret (v := .tuple #[.agg #[.slice B1 gs.length m1, .slice B2 ss.length m2], .bool false]) (res_ObjB (T := 47) (by rfl) (by rfl) (by rfl) ?_) rfl ?_
            · exact (by repeat (first | with_reducible exact HQ3.out | with_reducible refine blk_drew ?_ | with_reducible refine blk_drewN ?_ _ | with_reducible refine blk_alloc ?_ _ | with_reducible apply blk_set1 | with_reducible apply blk_set0 | with_reducible refine blk_other ?_ (by first | (simp; done) | omega | (simp; omega)) _))
            · refine hf.out _ _ _ _ _ _ _ ?_
              have hb := Hb2.out
              exact (by repeat (first | exact Below.refl _ _ | assumption | refine below_drewN ?_ _ | refine Below.drew ?_ | refine Below.setCell ?_ (by first | omega | (simp; done) | (simp; omega)) _ | refine Below.alloc ?_ (by first | omega | (simp; done) | (simp; omega)) _ | refine below_step (by assumption) ?_ (by first | omega | (simp; done) | (simp; omega))))
end Go.Proofs.YtfhnmbnniklmiaaDoor
