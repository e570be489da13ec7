/- object.Saved: an object's bytes. The document's ObjectBytes: an object's bytes. -/
import Derived.Test.YtcakodemngchpaaGreatDoorBase
import Derived.Test.YtcakodemngchpaaGreatDoorRows
import Derived.IntWalk
import Derived.Deep.LoopGhost
import Derived.Deep.CutBlock
import Derived.Deep.DeepCutAuto
import Derived.Outline
import Derived.Lib.SlBytesConst
import Derived.Test.YtcakodemngchpaaGreatDoorAppA
import Derived.Deep.RegionLaw
/- object.Saved: an object's bytes. -/
namespace Go.Proofs.YtcakodemngchpaaGreatDoor
open Go.RowKit
set_option linter.unusedSimpArgs false
set_option linter.unusedVariables false

/-- A writer lies in block P and has written bs; blocks Pr are not its row. -/
structure WS (T P base : Nat) (Pr : Nat → Prop) (bs : List UInt8) (W0 w : World) : Prop where
  ex : ∃ v, w.heap[P]? = some (.cells #[v] T (0, 0)) ∧ Buf w base v bs ∧ v.ownBlock ≠ some P ∧ ∀ k, Pr k → v.ownBlock ≠ some k
  bel : Below base W0 w
  hP : base ≤ P
  hb : base ≤ W0.heap.size
theorem WS.lt {T P base : Nat} {Pr : Nat → Prop} {bs : List UInt8} {W0 w : World} (h : WS T P base Pr bs W0 w) : P < w.heap.size := by
  obtain ⟨v, h1, _⟩ := h.ex
  exact (Array.getElem?_eq_some_iff.1 h1).1
theorem WS.below {T P base : Nat} {Pr Pr' : Nat → Prop} {bs : List UInt8} {W0 w w' : World} (h : WS T P base Pr bs W0 w) (hb : Below w.heap.size w w') (hp : ∀ k, Pr' k → Pr k ∨ w.heap.size ≤ k) : WS T P base Pr' bs W0 w' := by
  have hl := h.lt
  obtain ⟨v, h1, h2, h3, h4⟩ := h.ex
  have hz : base ≤ w.heap.size := Nat.le_trans h.hb h.bel.size
  refine ⟨⟨v, (hb.block _ hl).trans h1, h2.below hb (Nat.le_refl _), h3, fun k hk e => ?_⟩, h.bel.trans (hb.mono hz), h.hP, h.hb⟩
  rcases hp k hk with h5 | h5
  · exact h4 k h5 e
  · have := (h2.lt k e).2
    omega
theorem WS.step {T P base : Nat} {Pr : Nat → Prop} {bs cs : List UInt8} {W0 w w' : World} {v v' : Value} (h : WS T P base Pr bs W0 w) (hp : w.heap[P]? = some (.cells #[v] T (0, 0))) (hB : Buf w base v bs) (hne : v.ownBlock ≠ some P) (hpr : ∀ k, Pr k → v.ownBlock ≠ some k) (hprl : ∀ k, Pr k → k < w.heap.size)
    (h1 : w'.heap[P]? = some (.cells #[v'] T (0, 0))) (h2 : Buf w' base v' cs) (h3 : Grew (fun k => k = P ∨ v.ownBlock = some k) w w') (h4 : Came w v v') : WS T P base Pr cs W0 w' := by
  have hl := h.lt
  refine ⟨⟨v', h1, h2, h4.ne hne hl, fun k hk e => ?_⟩, h.bel.trans (h3.below (fun k hk e => ?_) (Nat.le_trans h.hb h.bel.size)), h.hP, h.hb⟩
  · rcases h4 k e with h5 | h5
    · exact hpr k hk h5
    · have := hprl k hk
      omega
  · have := h.hP
    rcases e with e | e
    · omega
    · have := (hB.lt k e).1
      omega
theorem wNumber_ws {T P base : Nat} {Pr : Nat → Prop} {bs : List UInt8} {W0 w : World} (h : WS T P base Pr bs W0 w) (hprl : ∀ k, Pr k → k < w.heap.size ∧ k ≠ P) (n : Nat) (hn : n < 9223372036854775808) (hlen : bs.length ≤ 1099511627776) (R : Ending → World → Prop)
    (hR : ∀ w', WS T P base Pr (bs ++ numB n) W0 w' → w.heap.size ≤ w'.heap.size → (∀ k, Pr k → w'.heap[k]? = w.heap[k]?) → R (.returned (.tuple #[])) w') :
    Calls Tryz.prog 63 #[.pointer (some ⟨P, 0, none⟩), .int .i64 (n : Int)] w R := by
  have hl := h.lt
  obtain ⟨v, h1, h2, h3, h4⟩ := h.ex
  refine wNumber_calls P T v bs n base w h1 h2 h3 hl (Nat.le_trans h.hb h.bel.size) hn hlen R fun w' v' k1 k2 k3 k4 => ?_
  exact hR w' (h.step h1 h2 h3 h4 (fun k hk => (hprl k hk).1) k1 k2 k3 k4) k3.size fun k hk => k3.block k (hprl k hk).1 (fun e => by
    rcases e with e | e
    · exact (hprl k hk).2 e
    · exact h4 k hk e)
theorem wText_ws {T P base : Nat} {Pr : Nat → Prop} {bs : List UInt8} {W0 w : World} (h : WS T P base Pr bs W0 w) (hprl : ∀ k, Pr k → k < w.heap.size ∧ k ≠ P) (s : ByteArray) (hs : s.size ≤ 1099511627776) (hlen : bs.length ≤ 1099511627776) (R : Ending → World → Prop)
    (hR : ∀ w', WS T P base Pr (bs ++ textB s) W0 w' → w.heap.size ≤ w'.heap.size → (∀ k, Pr k → w'.heap[k]? = w.heap[k]?) → R (.returned (.tuple #[])) w') :
    Calls Tryz.prog 64 #[.pointer (some ⟨P, 0, none⟩), .string s] w R := by
  have hl := h.lt
  obtain ⟨v, h1, h2, h3, h4⟩ := h.ex
  refine wText_calls P T v bs s base w h1 h2 h3 hl (Nat.le_trans h.hb h.bel.size) hs hlen R fun w' v' k1 k2 k3 k4 => ?_
  exact hR w' (h.step h1 h2 h3 h4 (fun k hk => (hprl k hk).1) k1 k2 k3 k4) k3.size fun k hk => k3.block k (hprl k hk).1 (fun e => by
    rcases e with e | e
    · exact (hprl k hk).2 e
    · exact h4 k hk e)

theorem two_src {w : World} {x y : UInt8} {u v : Value} (hx : byteCells x = [u]) (hy : byteCells y = [v]) : rpByte.SL (w.alloc (.cells #[u, v] 5)) (w.alloc (.cells #[u, v] 5)).heap.size [x, y] (.slice (some ⟨w.heap.size, 0, none⟩) 2 2) := by
  refine Buf.SL (base := 0) (.inl ⟨rfl, .inr ⟨w.heap.size, 2, #[u, v], rfl, Nat.zero_le _, heap_alloc_new _ _, Nat.le_refl _, by unfold maxLen; omega, rfl, ?_⟩⟩) (Nat.le_refl _)
  rw [List.flatMap_cons, List.flatMap_cons, hx, hy]
  rfl
theorem Grew.of_drew {X : Nat → Prop} {w w' : World} (h : Grew X w.drew w') : Grew X w w' := ⟨h.os, h.tape, h.output, h.size, h.block⟩
/-- A row that a call has left, stored in the writer. -/
theorem WS.store {T P base : Nat} {Pr : Nat → Prop} {bs cs : List UInt8} {W0 w w5 : World} {v v' : Value} (h : WS T P base Pr bs W0 w) (hp : w.heap[P]? = some (.cells #[v] T (0, 0))) (hB : Buf w base v bs) (hne : v.ownBlock ≠ some P) (hpr : ∀ k, Pr k → v.ownBlock ≠ some k) (hprl : ∀ k, Pr k → k < w.heap.size)
    (hg : Grew (fun k => v.ownBlock = some k) w w5) (hb : Buf w5 base v' cs) (hc : Came w v v') : WS T P base Pr cs W0 (w5.setCell ⟨P, 0, none⟩ v') := by
  have hl := h.lt
  have hP5 : w5.heap[P]? = some (.cells #[v] T (0, 0)) := (hg.block _ hl hne).trans hp
  have hn1 := hc.ne hne hl
  exact h.step hp hB hne hpr hprl (one_set hP5 _) (hb.grew (Grew.of_grown (grown_setCell w5 ⟨P, 0, none⟩ _)) (fun k hk e => hn1 (hk.trans e.symm)))
    ((hg.more (fun j _ e => Or.inr e)).trans (Grew.of_grown (grown_setCell w5 ⟨P, 0, none⟩ _)) (fun j _ e => .inl (Option.some.inj e).symm)) hc
theorem restG (o : Object) {k : Nat} {g : Global} (h : o.globals[k]? = some g) : globsB (o.globals.drop k) = textB g.name ++ (numB g.size.toNat ++ (numB g.init.length ++ (initB g.init ++ globsB (o.globals.drop (k + 1))))) := by
  unfold globsB
  rw [flat_step globB h]
  unfold globB
  simp only [List.append_assoc]
theorem restS (o : Object) {k : Nat} {s : Section} (h : o.sections[k]? = some s) : secsB (o.sections.drop k) = textB s.name ++ (textB (strL s.code) ++ (numB s.mends.length ++ (mendsB s.mends ++ secsB (o.sections.drop (k + 1))))) := by
  unfold secsB
  rw [flat_step secB h]
  unfold secB
  simp only [List.append_assoc]

set_option maxRecDepth 100000 in
set_option maxHeartbeats 8000000 in
theorem Saved_calls (o : Object) (v1 v2 : Value) (w : World) (h1 : rpGlobal.SL w w.heap.size o.globals v1) (h2 : rpSection.SL w w.heap.size o.sections v2) (hok : ObjOk o) (hwide : Wide o) (R : Ending → World → Prop)
    (hR : ∀ w' v', Below w.heap.size w w' → Buf w' w.heap.size v' (savedB o) → R (.returned v') w') :
    Calls Tryz.prog 32 #[.agg #[v1, v2]] w R := by
  obtain ⟨A1, n1, rfl, hm1, hcap1, h1⟩ := h1.cases_
  obtain ⟨A2, n2, rfl, hm2, hcap2, h2⟩ := h2.cases_
  have hblen := bodyB_len hok
  have HR := Lib.hid hR
  have H1 := Lib.hid h1
  have H2 := Lib.hid h2
  have Hok := Lib.hid hok
  have Hwide := Lib.hid hwide
  obtain ⟨W0, hW0⟩ : ∃ W0, W0 = ((w.alloc (Obj.cells #[.slice A1 o.globals.length n1, .slice A2 o.sections.length n2] 40)).alloc (Obj.cells #[.int .u8 79, .int .u8 66, .int .u8 74] 5 (3, 4))).alloc (Obj.cells #[.slice (some ⟨w.heap.size + 1, 0, none⟩) 3 3] 137) := ⟨_, rfl⟩
  have hb0 : Below w.heap.size w W0 := by subst hW0; exact bl0
  have hz0 : W0.heap.size = w.heap.size + 3 := by subst hW0; simp
  have hP : W0.heap[w.heap.size]? = some (.cells #[.slice A1 o.globals.length n1, .slice A2 o.sections.length n2] 40 (0, 0)) := by
    subst hW0
    exact blk_alloc (blk_alloc (heap_alloc_new _ _) _) _
  have hQ : W0.heap[w.heap.size + 1]? = some (.cells #[.int .u8 79, .int .u8 66, .int .u8 74] 5 (3, 4)) := by
    subst hW0
    have := heap_alloc_new (w.alloc (Obj.cells #[.slice A1 o.globals.length n1, .slice A2 o.sections.length n2] 40)) (Obj.cells #[.int .u8 79, .int .u8 66, .int .u8 74] 5 (3, 4))
    exact blk_alloc (by simpa using this) _
  have hV : W0.heap[w.heap.size + 2]? = some (.cells #[.slice (some ⟨w.heap.size + 1, 0, none⟩) 3 3] 137 (0, 0)) := by
    subst hW0
    have := heap_alloc_new ((w.alloc (Obj.cells #[.slice A1 o.globals.length n1, .slice A2 o.sections.length n2] 40)).alloc (Obj.cells #[.int .u8 79, .int .u8 66, .int .u8 74] 5 (3, 4))) (Obj.cells #[.slice (some ⟨w.heap.size + 1, 0, none⟩) 3 3] 137)
    simpa using this
  have hws : WS 137 (w.heap.size + 2) (w.heap.size + 1) (fun _ => False) [79, 66, 74] W0 W0 := by
    refine ⟨⟨_, hV, ?_, by simp [Value.ownBlock], fun _ h => h.elim⟩, Below.refl _ _, by omega, by omega⟩
    exact .inr ⟨by decide, by decide, w.heap.size + 1, _, _, rfl, Nat.le_refl _, hQ, rfl⟩
  obtain ⟨p0, p1⟩ := cells_blk hP
  have HP := Lib.hid hP
  have HW := Lib.hid hW0.symm
  have Hb0 := Lib.hid hb0
  have Hz0 := Lib.hid hz0
  have Hws := Lib.hid hws
  have hlenG : o.globals.length < 9223372036854775808 := by omega
  have hlenS : o.sections.length < 9223372036854775808 := by omega
  have HK : Hid (∀ W, Below (w.heap.size + 1) W0 W → W.heap[w.heap.size]? = some (.cells #[.slice A1 o.globals.length n1, .slice A2 o.sections.length n2] 40 (0, 0)) ∧ w.heap.size + 3 ≤ W.heap.size ∧ Below w.heap.size w W) := Lib.hid fun W h =>
    ⟨(h.block _ (by omega)).trans HP.out, by have := h.size; rw [Hz0.out] at this; exact this, Hb0.out.trans (h.mono (by omega))⟩
  clear hR h1 h2 hP hQ hV hb0 hz0 hW0 hws hok hwide
  have hcv : (convert 137 137 (.slice (some ⟨w.heap.size + 1, 0, none⟩) 3 3)).run Tryz.prog ((w.alloc (Obj.cells #[.slice A1 o.globals.length n1, .slice A2 o.sections.length n2] 40)).alloc (Obj.cells #[.int .u8 79, .int .u8 66, .int .u8 74] 5)) = .ok (.slice (some ⟨w.heap.size + 1, 0, none⟩) 3 3) ((w.alloc (Obj.cells #[.slice A1 o.globals.length n1, .slice A2 o.sections.length n2] 40)).alloc (Obj.cells #[.int .u8 79, .int .u8 66, .int .u8 74] 5 (3, 4))) := by
    have := Lib.run_convert_bytes_const (P := Tryz.prog) (w.alloc (Obj.cells #[.slice A1 o.globals.length n1, .slice A2 o.sections.length n2] 40)) 137 5 #[.int .u8 79, .int .u8 66, .int .u8 74] 3 3 Tryz.underlying137 Tryz.underlying5
    simpa using this
  go_enter Tryz.func32, Tryz.ntmps32
  go_wp2_with fail
  rw [HW.out]
  refine wNumber_ws Hws.out (fun k h => h.elim) o.globals.length hlenG (by decide) _ (fun w1 hs1 hz1 _ => ?_)
  have hk1 := HK.out _ hs1.bel
  obtain ⟨p0, p1⟩ := cells_blk hk1.1
  have hz1 : w.heap.size < w1.heap.size := by omega
  have Hs1 := Lib.hid hs1
  clear hs1 hk1 HW
  go_upto_block 0 with fail
  go_cut [] (fun wx => ∃ cur, cur ++ (numB o.sections.length ++ secsB o.sections) = bodyB o ∧ WS 137 (w.heap.size + 2) (w.heap.size + 1) (fun _ => False) cur W0 wx)
  case first =>
    go_wp2_with fail
    go_loopg [5, 7, 22, 39] o.globals.length (fun gh s5 s7 i s39 wr => ∃ (k : Nat) (cur : List UInt8), k ≤ o.globals.length ∧ gh = o.globals.length - k ∧ i = .int .i64 k ∧ cur ++ (globsB (o.globals.drop k) ++ (numB o.sections.length ++ secsB o.sections)) = bodyB o ∧ WS 137 (w.heap.size + 2) (w.heap.size + 1) (fun _ => False) cur W0 wr)
    case atStart =>
      refine ⟨0, _, Nat.zero_le _, rfl, rfl, ?_, Hs1.out⟩
      unfold bodyB
      simp only [List.append_assoc, List.drop_zero]
    case round =>
      obtain ⟨k, cur, hk, rfl, rfl, hcur, hws⟩ := hrel
      have hcl : cur.length ≤ 13000000 := by have := congrArg List.length hcur; rw [List.length_append] at this; omega
      obtain ⟨hkP, hkz, hkb⟩ := HK.out _ hws.bel
      have hlP := hws.lt
      have Hcur := Lib.hid hcur
      have Hws := Lib.hid hws
      have i1 : (0 : Int) ≤ (k : Int) := Int.natCast_nonneg _
      clear hcur hws hkP
      by_cases hlt : k < o.globals.length
      · obtain ⟨b, off, x, v3, rfl, hb, e, h3, q0, q1, q2⟩ := H1.out.global_at hlt
        have p0 := (hkb.cell (p := ⟨b, off + k * 3, none⟩) hb).trans q0
        have p1 := (hkb.cell (p := ⟨b, off + k * 3 + 1, none⟩) hb).trans q1
        have p2 := (hkb.cell (p := ⟨b, off + k * 3 + 2, none⟩) hb).trans q2
        have i2 : (k : Int) < (o.globals.length : Int) := by omega
        obtain ⟨A3, n3, rfl, hm3, hcap3, h3⟩ := h3.cases_
        have hgk := (globFault_ok Hok.out.glob).2 x (List.mem_of_getElem? e)
        have hnl := (goodName_len hgk.good).2
        have hsz0 := hgk.low
        have hsz1 := hgk.high
        have hin := hgk.fits
        obtain ⟨sz, hsz⟩ : ∃ sz : Nat, x.size = (sz : Int) := ⟨x.size.toNat, by omega⟩
        have hszb : sz ≤ 200 := by omega
        have hinb : x.init.length ≤ 200 := by omega
        have hrest := restG o e
        rw [hsz, Int.toNat_natCast] at hrest
        have Hrest := Lib.hid hrest
        have hwide := Hwide.out x (List.mem_of_getElem? e)
        have Hx := Lib.hid hwide
        have H3 := Lib.hid h3
        rw [hsz] at p1
        have hV0 := heap_alloc_new wr (Obj.cells #[.string x.name, .int .i64 (sz : Int), .slice A3 x.init.length n3] 118)
        have hws0 := Hws.out.below (Pr' := fun j => j = wr.heap.size) ((Below.refl _ _).alloc (Nat.le_refl _) (Obj.cells #[.string x.name, .int .i64 (sz : Int), .slice A3 x.init.length n3] 118)) (fun j hj => .inr (Nat.le_of_eq hj.symm))
        have hz0 : (wr.alloc (Obj.cells #[.string x.name, .int .i64 (sz : Int), .slice A3 x.init.length n3] 118)).heap.size = wr.heap.size + 1 := by simp
        have HV0 := Lib.hid hV0
        have Hws0 := Lib.hid hws0
        have Hz0 := Lib.hid hz0
        have hnP : wr.heap.size ≠ w.heap.size + 2 := by omega
        clear q0 q1 q2 e h3 hwide hgk hrest hV0 hws0 hz0 hsz hsz0 hsz1 hin
        go_wp2_with fail
        refine wText_ws Hws0.out (fun j hj => by subst hj; exact ⟨by rw [Hz0.out]; omega, hnP⟩) x.name (by omega) (by omega) _ (fun w2 hs2 hz2 hp2 => ?_)
        have hV2 := (hp2 _ rfl).trans HV0.out
        rw [Hz0.out] at hz2
        have m1 : w2.cell? ⟨wr.heap.size, 1, none⟩ = some (.int .i64 (sz : Int)) := by simp [World.cell?, hV2]
        have hl2 := textB_len x.name
        have HV2 := Lib.hid hV2
        have Hs2 := Lib.hid hs2
        clear hs2 hp2 hV2
        go_wp2_with fail
        refine wNumber_ws Hs2.out (fun j hj => by subst hj; exact ⟨by omega, hnP⟩) sz (by omega) (by rw [List.length_append]; omega) _ (fun w3 hs3 hz3 hp3 => ?_)
        have hV3 := (hp3 _ rfl).trans HV2.out
        have m2 : w3.cell? ⟨wr.heap.size, 2, none⟩ = some (.slice A3 x.init.length n3) := by simp [World.cell?, hV3]
        have hl3 := numB_len sz
        have HV3 := Lib.hid hV3
        have Hs3 := Lib.hid hs3
        clear hs3 hp3 hV3
        go_wp2_with fail
        refine wNumber_ws Hs3.out (fun j hj => by subst hj; exact ⟨by omega, hnP⟩) x.init.length (by omega) (by rw [List.length_append, List.length_append]; omega) _ (fun w4 hs4 hz4 hp4 => ?_)
        have hV4 := (hp4 _ rfl).trans HV3.out
        have m2' : w4.cell? ⟨wr.heap.size, 2, none⟩ = some (.slice A3 x.init.length n3) := by simp [World.cell?, hV4]
        have HV4 := Lib.hid hV4
        have Hs4 := Lib.hid hs4
        clear hs4 hp4 hV4
        go_wp2
        obtain ⟨cur4, hc4⟩ : ∃ c, c = ((cur ++ textB x.name) ++ numB sz) ++ numB x.init.length := ⟨_, rfl⟩
        rw [← hc4] at Hs4
        have hcur4 : cur4 ++ (initB x.init ++ (globsB (o.globals.drop (k + 1)) ++ (numB o.sections.length ++ secsB o.sections))) = bodyB o := by
          rw [hc4, ← Hcur.out, Hrest.out]
          simp only [List.append_assoc]
        have Hcur4 := Lib.hid hcur4
        generalize hRest : globsB (o.globals.drop (k + 1)) ++ (numB o.sections.length ++ secsB o.sections) = rest at Hcur4
        have HRest := Lib.hid hRest
        clear hcur4 hc4 hRest p0 p1 p2 m1 m2 m2' Hs2 Hs3 HV2 HV3 Hws0 HV0
        go_loopg [7, 39] x.init.length (fun gh s7 i wi => ∃ (j : Nat) (cu : List UInt8), j ≤ x.init.length ∧ gh = x.init.length - j ∧ i = .int .i64 j ∧ cu ++ (initB (x.init.drop j) ++ rest) = bodyB o ∧ WS 137 (w.heap.size + 2) (w.heap.size + 1) (fun _ => False) cu W0 wi)
        case atStart => exact ⟨0, cur4, Nat.zero_le _, rfl, rfl, Hcur4.out, Hs4.out.below (Below.refl _ _) (fun _ h => h.elim)⟩
        case round =>
          rename World => wi
          obtain ⟨j, cu, hj, rfl, rfl, hcu, hwi⟩ := hrel
          have hcl2 : cu.length ≤ 13000000 := by have := congrArg List.length hcu; rw [List.length_append] at this; omega
          have hkb2 := (HK.out _ hwi.bel).2.2
          have j1 : (0 : Int) ≤ (j : Int) := Int.natCast_nonneg _
          have Hcu := Lib.hid hcu
          have Hwi := Lib.hid hwi
          clear hcu
          by_cases hlt2 : j < x.init.length
          · obtain ⟨b3, o3, rfl, hb3, q3⟩ := H3.out.int_at hlt2
            have p3 := (hkb2.cell (p := ⟨b3, o3 + j, none⟩) hb3).trans q3
            have j2 : (j : Int) < (x.init.length : Int) := by omega
            have g3 : x.init[j]? = some (x.init.getD j 0) := by rw [List.getD_eq_getElem?_getD, List.getElem?_eq_getElem hlt2]; rfl
            have hwn := Hx.out _ (List.mem_of_getElem? g3)
            have hst : initB (x.init.drop j) = numB (foldN (x.init.getD j 0)) ++ initB (x.init.drop (j + 1)) := flat_step _ g3
            have Hst := Lib.hid hst
            generalize x.init.getD j 0 = m at *
            have hfl := foldN_lt hwn.1 hwn.2
            have Hwn := Lib.hid hwn
            obtain ⟨v, hP, hB, hne, _⟩ := hwi.ex
            obtain ⟨c0, z0⟩ := one_blk hP
            have hlP2 := hwi.lt
            obtain ⟨A5, c5, rfl⟩ := hB.slice
            have HP5 := Lib.hid hP
            have HB5 := Lib.hid hB
            have Hne5 := Lib.hid hne
            have hbz : w.heap.size + 1 ≤ wi.heap.size := by omega
            clear q3 g3 hst hwn hP hB hne hwi
            go_wp2
            go_region_with (first | (go_at_call 65; refine Fold_calls m _ Hwn.out _ ?_) | (go_at_call 30; refine bNumber_calls _ cu (foldN m) (w.heap.size + 1) _ (by first | exact HB5.out | exact HB5.out.below (Below.refl wi.heap.size wi).drew (Nat.le_refl _)) hfl (by omega) (by first | exact hbz | (simp; omega)) _ ?_; intro w5 v5 hg5 hb5 hc5; obtain ⟨A6, c6, rfl⟩ := hb5.slice; have hP5 : w5.heap[w.heap.size + 2]? = some (.cells #[.slice A5 cu.length c5] 137 (0, 0)) := (hg5.block _ (by first | exact hlP2 | (simp; omega)) (fun e => Hne5.out e)).trans HP5.out; obtain ⟨d0, y0⟩ := one_blk hP5; have hz5 := hg5.size))
            all_goals
              have hws5 := Hwi.out.store HP5.out HB5.out Hne5.out (fun _ h => h.elim) (fun _ h => h.elim) (Grew.of_drew hg5) hb5 hc5
              rw [List.length_append] at hws5
              have Hws5 := Lib.hid hws5
              clear hg5 hb5 hc5 hP5 d0 y0 hws5 c0 z0
              go_wp2
              go_roundg (x.init.length - (j + 1))
              case measure => omega
              case rel => exact ⟨j + 1, cu ++ numB (foldN m), hlt2, rfl, by go_num, by rw [← Hcu.out, Hst.out]; simp only [List.append_assoc], Hws5.out⟩
          · obtain rfl : j = x.init.length := by omega
            rw [List.drop_length] at Hcu
            clear hwi
            go_wp2
            go_roundg (o.globals.length - (k + 1))
            case measure => omega
            case rel => exact ⟨k + 1, cu, hlt, rfl, by go_num, by rw [HRest.out]; exact Hcu.out, Hwi.out⟩
      · obtain rfl : k = o.globals.length := by omega
        rw [List.drop_length] at Hcur
        go_wp2
        go_meet
        exact ⟨cur, Hcur.out, Hws.out⟩
  case rest =>
    rename World => wx
    obtain ⟨cur, hcur, hws⟩ := hcut
    have hcl : cur.length ≤ 13000000 := by have := congrArg List.length hcur; rw [List.length_append] at this; omega
    obtain ⟨hkP, hkz, hkb⟩ := HK.out _ hws.bel
    obtain ⟨p0, p1⟩ := cells_blk hkP
    have Hcur := Lib.hid hcur
    have Hws := Lib.hid hws
    clear hcur hws hkP
    go_wp2_with fail
    refine wNumber_ws Hws.out (fun _ h => h.elim) o.sections.length hlenS (by omega) _ (fun w1 hs1 hz1 _ => ?_)
    have hk1 := HK.out _ hs1.bel
    obtain ⟨p0, p1⟩ := cells_blk hk1.1
    have hz1 : w.heap.size < w1.heap.size := by omega
    have Hs1 := Lib.hid hs1
    clear hs1 hk1
    go_upto_block 4 with fail
    go_cut [] (fun wy => WS 137 (w.heap.size + 2) (w.heap.size + 1) (fun _ => False) (bodyB o) W0 wy)
    case first =>
      go_wp2_with fail
      go_loopg [9, 11, 56, 74] o.sections.length (fun gh s9 s11 i s74 wr => ∃ (k : Nat) (cur : List UInt8), k ≤ o.sections.length ∧ gh = o.sections.length - k ∧ i = .int .i64 k ∧ cur ++ secsB (o.sections.drop k) = bodyB o ∧ WS 137 (w.heap.size + 2) (w.heap.size + 1) (fun _ => False) cur W0 wr)
      case atStart =>
        refine ⟨0, _, Nat.zero_le _, rfl, rfl, ?_, Hs1.out⟩
        rw [← Hcur.out]
        simp only [List.append_assoc, List.drop_zero]
      case round =>
        obtain ⟨k, cur, hk, rfl, rfl, hcur, hws⟩ := hrel
        have hcl : cur.length ≤ 13000000 := by have := congrArg List.length hcur; rw [List.length_append] at this; omega
        obtain ⟨hkP, hkz, hkb⟩ := HK.out _ hws.bel
        have hlP := hws.lt
        have Hcur2 := Lib.hid hcur
        have Hws2 := Lib.hid hws
        have i1 : (0 : Int) ≤ (k : Int) := Int.natCast_nonneg _
        clear hcur hws hkP
        by_cases hlt : k < o.sections.length
        · obtain ⟨b, off, x, v3, v4, rfl, hb, e, h3, h4, q0, q1, q2⟩ := H2.out.section_at hlt
          have p0 := (hkb.cell (p := ⟨b, off + k * 3, none⟩) hb).trans q0
          have p1 := (hkb.cell (p := ⟨b, off + k * 3 + 1, none⟩) hb).trans q1
          have p2 := (hkb.cell (p := ⟨b, off + k * 3 + 2, none⟩) hb).trans q2
          have i2 : (k : Int) < (o.sections.length : Int) := by omega
          obtain ⟨A3, n3, rfl, hm3, hcap3, h3⟩ := h3.cases_
          obtain ⟨A4, n4, rfl, hm4, hcap4, h4⟩ := h4.cases_
          have hsk := Hok.out.secs k x e
          have hnl := (goodName_len hsk.good).2
          obtain ⟨hcode, hmend, hms⟩ := secF_ok hsk.fine
          have Hms := Lib.hid hms
          have hrest := restS o e
          have Hrest := Lib.hid hrest
          have H3 := Lib.hid h3
          have H4 := Lib.hid h4
          have hV0 := heap_alloc_new wr (Obj.cells #[.string x.name, .slice A3 x.code.length n3, .slice A4 x.mends.length n4] 58)
          have hws0 := Hws2.out.below (Pr' := fun j => j = wr.heap.size) ((Below.refl _ _).alloc (Nat.le_refl _) (Obj.cells #[.string x.name, .slice A3 x.code.length n3, .slice A4 x.mends.length n4] 58)) (fun j hj => .inr (Nat.le_of_eq hj.symm))
          have hz0 : (wr.alloc (Obj.cells #[.string x.name, .slice A3 x.code.length n3, .slice A4 x.mends.length n4] 58)).heap.size = wr.heap.size + 1 := by simp
          have HV0 := Lib.hid hV0
          have Hws0 := Lib.hid hws0
          have Hz0' := Lib.hid hz0
          have hnP : wr.heap.size ≠ w.heap.size + 2 := by omega
          have hcsz : (strL x.code).size ≤ 70000 := by rw [strL_size]; exact hcode
          clear q0 q1 q2 e h3 h4 hsk hms hrest hV0 hws0 hz0
          go_wp2_with fail
          refine wText_ws Hws0.out (fun j hj => by subst hj; exact ⟨by rw [Hz0'.out]; omega, hnP⟩) x.name (by omega) (by omega) _ (fun w2 hs2 hz2 hp2 => ?_)
          have hV2 := (hp2 _ rfl).trans HV0.out
          rw [Hz0'.out] at hz2
          have m1 : w2.cell? ⟨wr.heap.size, 1, none⟩ = some (.slice A3 x.code.length n3) := by simp [World.cell?, hV2]
          have hl2 := textB_len x.name
          have HV2 := Lib.hid hV2
          have hcv := conv_bytes (P := Tryz.prog) Tryz.underlying25 Tryz.underlying5 Tryz.underlying9 (H3.out.up (B' := w2.heap.size) (HK.out _ hs2.bel).2.2 (by omega))
          have Hs2 := Lib.hid hs2
          clear hs2 hp2 hV2
          go_wp2_with fail
          refine wText_ws Hs2.out (fun j hj => by subst hj; exact ⟨by omega, hnP⟩) (strL x.code) (by omega) (by rw [List.length_append]; omega) _ (fun w3 hs3 hz3 hp3 => ?_)
          have hV3 := (hp3 _ rfl).trans HV2.out
          have m2 : w3.cell? ⟨wr.heap.size, 2, none⟩ = some (.slice A4 x.mends.length n4) := by simp [World.cell?, hV3]
          have hl3 := textB_len (strL x.code)
          have HV3 := Lib.hid hV3
          have Hs3 := Lib.hid hs3
          clear hs3 hp3 hV3 hcv
          go_wp2_with fail
          refine wNumber_ws Hs3.out (fun j hj => by subst hj; exact ⟨by omega, hnP⟩) x.mends.length (by omega) (by rw [List.length_append, List.length_append]; omega) _ (fun w4 hs4 hz4 hp4 => ?_)
          have hV4 := (hp4 _ rfl).trans HV3.out
          have m2' : w4.cell? ⟨wr.heap.size, 2, none⟩ = some (.slice A4 x.mends.length n4) := by simp [World.cell?, hV4]
          have HV4 := Lib.hid hV4
          have Hs4 := Lib.hid hs4
          clear hs4 hp4 hV4
          go_wp2
          obtain ⟨cur4, hc4⟩ : ∃ c, c = ((cur ++ textB x.name) ++ textB (strL x.code)) ++ numB x.mends.length := ⟨_, rfl⟩
          rw [← hc4] at Hs4
          have hcur4 : cur4 ++ (mendsB x.mends ++ secsB (o.sections.drop (k + 1))) = bodyB o := by
            rw [hc4, ← Hcur2.out, Hrest.out]
            simp only [List.append_assoc]
          have Hcur4 := Lib.hid hcur4
          generalize hRest : secsB (o.sections.drop (k + 1)) = rest at Hcur4
          have HRest := Lib.hid hRest
          clear hcur4 hc4 hRest p0 p1 p2 m1 m2 m2' Hs2 Hs3 HV2 HV3 Hws0 HV0
          go_loopg [11, 74] x.mends.length (fun gh s11 i wi => ∃ (j : Nat) (cu : List UInt8), j ≤ x.mends.length ∧ gh = x.mends.length - j ∧ i = .int .i64 j ∧ cu ++ (mendsB (x.mends.drop j) ++ rest) = bodyB o ∧ WS 137 (w.heap.size + 2) (w.heap.size + 1) (fun _ => False) cu W0 wi)
          case atStart => exact ⟨0, cur4, Nat.zero_le _, rfl, rfl, Hcur4.out, Hs4.out.below (Below.refl _ _) (fun _ h => h.elim)⟩
          case round =>
            rename World => wi
            obtain ⟨j, cu, hj, rfl, rfl, hcu, hwi⟩ := hrel
            have hcl2 : cu.length ≤ 13000000 := by have := congrArg List.length hcu; rw [List.length_append] at this; omega
            have hkb2 := (HK.out _ hwi.bel).2.2
            have hlP2 := hwi.lt
            have j1 : (0 : Int) ≤ (j : Int) := Int.natCast_nonneg _
            have Hcu := Lib.hid hcu
            have Hwi := Lib.hid hwi
            clear hcu hwi
            by_cases hlt2 : j < x.mends.length
            · obtain ⟨b3, o3, m, rfl, hb3, e3, q3, q4⟩ := H4.out.mend_at hlt2
              obtain ⟨hm0, hm1', hmn⟩ := Hms.out m (List.mem_of_getElem? e3)
              obtain ⟨mz, hmz⟩ : ∃ mz : Nat, m.at_ = (mz : Int) := ⟨m.at_.toNat, by omega⟩
              have hnl2 := (goodName_len hmn).2
              have hmzb : mz ≤ 5000 := by omega
              have p3 := (hkb2.cell (p := ⟨b3, o3 + j * 2, none⟩) hb3).trans q3
              have p4 := (hkb2.cell (p := ⟨b3, o3 + j * 2 + 1, none⟩) hb3).trans q4
              rw [hmz] at p3
              have j2 : (j : Int) < (x.mends.length : Int) := by omega
              have hst : mendsB (x.mends.drop j) = (numB mz ++ textB m.name) ++ mendsB (x.mends.drop (j + 1)) := by
                have := flat_step mendB e3
                unfold mendB at this
                rw [hmz, Int.toNat_natCast] at this
                exact this
              have Hst := Lib.hid hst
              have hV0 := heap_alloc_new wi (Obj.cells #[.int .i64 (mz : Int), .string m.name] 84)
              have hws0 := Hwi.out.below (Pr' := fun j => j = wi.heap.size) ((Below.refl _ _).alloc (Nat.le_refl _) (Obj.cells #[.int .i64 (mz : Int), .string m.name] 84)) (fun j hj => .inr (Nat.le_of_eq hj.symm))
              have hz0 : (wi.alloc (Obj.cells #[.int .i64 (mz : Int), .string m.name] 84)).heap.size = wi.heap.size + 1 := by simp
              have HV0 := Lib.hid hV0
              have Hws0 := Lib.hid hws0
              have Hz1 := Lib.hid hz0
              have hnP2 : wi.heap.size ≠ w.heap.size + 2 := by omega
              clear q3 q4 e3 hst hV0 hws0 hz0 hmz hm0 hm1' hmn
              go_wp2_with fail
              refine wNumber_ws Hws0.out (fun j hj => by subst hj; exact ⟨by rw [Hz1.out]; omega, hnP2⟩) mz (by omega) (by omega) _ (fun w5 hs5 hz5 hp5 => ?_)
              have hV5 := (hp5 _ rfl).trans HV0.out
              rw [Hz1.out] at hz5
              have m5 : w5.cell? ⟨wi.heap.size, 1, none⟩ = some (.string m.name) := by simp [World.cell?, hV5]
              have hl5 := numB_len mz
              have Hs5 := Lib.hid hs5
              clear hs5 hp5 hV5
              go_wp2_with fail
              refine wText_ws Hs5.out (fun j hj => by subst hj; exact ⟨by omega, hnP2⟩) m.name (by omega) (by rw [List.length_append]; omega) _ (fun w6 hs6 hz6 hp6 => ?_)
              have Hs6 := Lib.hid hs6
              clear hs6 hp6 m5
              go_wp2
              go_roundg (x.mends.length - (j + 1))
              case measure => omega
              case rel => exact ⟨j + 1, (cu ++ numB mz) ++ textB m.name, hlt2, rfl, by go_num, by rw [← Hcu.out, Hst.out]; simp only [List.append_assoc], Hs6.out.below (Below.refl _ _) (fun _ h => h.elim)⟩
            · obtain rfl : j = x.mends.length := by omega
              rw [List.drop_length] at Hcu
              go_wp2
              go_roundg (o.sections.length - (k + 1))
              case measure => omega
              case rel => exact ⟨k + 1, cu, hlt, rfl, by go_num, by rw [HRest.out]; exact Hcu.out, Hwi.out⟩
        · obtain rfl : k = o.sections.length := by omega
          rw [List.drop_length] at Hcur2
          have hcb : cur = bodyB o := by have := Hcur2.out; simpa [secsB] using this
          go_wp2
          go_meet
          rw [← hcb]
          exact Hws2.out
    case rest =>
      rename World => wy
      have hws := hcut
      obtain ⟨v, hP, hB, hne, _⟩ := hws.ex
      obtain ⟨c0, z0⟩ := one_blk hP
      obtain ⟨A5, c5, rfl⟩ := hB.slice
      have hlP := hws.lt
      have hsum := sumL_lt (bodyB o)
      have Hend := Lib.hid (HK.out _ hws.bel).2.2
      have HB := Lib.hid hB
      have hbz : w.heap.size + 1 ≤ wy.heap.size := by omega
      obtain ⟨sm, hsm⟩ : ∃ sm, sm = sumL (bodyB o) := ⟨_, rfl⟩
      have Hsm := Lib.hid hsm
      rw [← hsm] at hsum
      clear hcut hws hP hB hne hsm
      go_wp2_with fail
      refine Sum_calls _ (bodyB o) _ (HB.out.SL (Nat.le_refl _)) _ ?_
      rw [← Hsm.out]
      have i0 : (0 : Int) ≤ (sm : Int) := by omega
      have i1 : (sm : Int) < 65521 := by omega
      have hx : byteCells (UInt8.ofNat (sm / 256)) = [.int .u8 ((sm : Int) / 256)] := by
        rw [cells_ofNat]
        congr 2
        omega
      have hy : byteCells (UInt8.ofNat (sm % 256)) = [.int .u8 ((sm : Int) % 256)] := by
        rw [cells_ofNat]
        congr 2
        omega
      have hsrc := Lib.hid (two_src (w := wy) hx hy)
      have hsv : savedB o = bodyB o ++ [UInt8.ofNat (sm / 256), UInt8.ofNat (sm % 256)] := by
        unfold savedB sumB
        rw [← Hsm.out]
      have Hsv := Lib.hid hsv
      have HBa := Lib.hid (HB.out.alloc (.cells #[.int .u8 ((sm : Int) / 256), .int .u8 ((sm : Int) % 256)] 5))
      generalize UInt8.ofNat (sm / 256) = x at *
      generalize UInt8.ofNat (sm % 256) = y at *
      clear hx hy hsv
      go_wp2_with (at_builtin; refine wpList_app_buf _ rfl _ _ _ rfl Tryz.underlying137 rfl HBa.out rfl hsrc.out (by simp; omega) (by simp; omega) ?_)
      intro v1 w1 hb2 hg2 hc2
      have hfin := HR.out w1 v1 (((Hend.out.alloc (by have := Hend.out.size; omega) _)).trans (hg2.below (fun k hk e => by have := (HB.out.lt k e).1; omega) (by simp; omega))) (by rw [Hsv.out]; exact hb2.base (Nat.le_succ _))
      have Hfin := Lib.hid hfin
      clear hb2 hg2 hc2 hfin
      go_wp2
      exact Hfin.out
end Go.Proofs.YtcakodemngchpaaGreatDoor

/- The document's ObjectBytes: an object's bytes. -/
namespace Go.Proofs.YtcakodemngchpaaGreatDoor
open Go.RowKit
set_option linter.unusedSimpArgs false
set_option linter.unusedVariables false

/-- A row in a slot: bs, from base on; the world above W0. -/
structure OB (base : Nat) (v : Value) (bs : List UInt8) (W0 w : World) : Prop where
  buf : Buf w base v bs
  bel : Below base W0 w
  hb : base ≤ W0.heap.size
theorem OB.below {base : Nat} {v : Value} {bs : List UInt8} {W0 w w' : World} (h : OB base v bs W0 w) (hb : Below w.heap.size w w') : OB base v bs W0 w' :=
  ⟨h.buf.below hb (Nat.le_refl _), h.bel.trans (hb.mono (Nat.le_trans h.hb h.bel.size)), h.hb⟩
theorem OB.app {base : Nat} {v v' : Value} {bs cs : List UInt8} {W0 w w' : World} (h : OB base v bs W0 w) (hb : Buf w' base v' cs) (hg : Grew (fun k => v.ownBlock = some k) w w') : OB base v' cs W0 w' :=
  ⟨hb, h.bel.trans (hg.below (fun k hk e => by have := (h.buf.lt k e).1; omega) (Nat.le_trans h.hb h.bel.size)), h.hb⟩
theorem OB.base {base : Nat} {v : Value} {bs : List UInt8} {W0 w : World} (h : OB base v bs W0 w) : base ≤ w.heap.size := Nat.le_trans h.hb h.bel.size

theorem below_of_drew {w w' : World} (h : Below w.drew.heap.size w.drew w') : Below w.heap.size w w' := ⟨h.os, h.tape, h.output, h.size, h.block⟩
end Go.Proofs.YtcakodemngchpaaGreatDoor
