/- Two rows that grow side by side: mends in a section's field, and instructions. turnerykit.ObjectOf: an object of raw numbers. -/
import Derived.Test.YtcakodemngchpaaGreatDoorBase
import Derived.Test.YtcakodemngchpaaGreatDoorRows
import Derived.IntWalk
import Derived.Test.YtcakodemngchpaaGreatDoorKitPm
import Derived.Test.YtcakodemngchpaaGreatDoorCopyA
import Derived.Test.YtcakodemngchpaaGreatDoorAppA
import Derived.Deep.LoopGhost
import Derived.Deep.CutBlock
import Derived.Deep.DeepCutAuto
import Derived.Outline
import Derived.Test.YtcakodemngchpaaGreatDoorFb
import Derived.Test.YtcakodemngchpaaGreatDoorKitX
import Derived.Test.YtcakodemngchpaaGreatDoorKitW
/- Two rows that grow side by side: mends in a section's field, and instructions. -/
namespace Go.Proofs.YtcakodemngchpaaGreatDoor
open Go.RowKit
set_option linter.unusedSimpArgs false
set_option linter.unusedVariables false

structure KSt (w4 : World) (G : Nat) (nm : ByteArray) (ms : List Mend) (os : List Mac) (wi : World) (so vm : Value) : Prop where
  gb : wi.heap[G]? = some (.cells #[.string nm, .slice none 0 0, vm] 58 (0, 0))
  mn : wi.ownsRow w4.heap.size 84 2 vm ms.length (ms.flatMap Mend.cells)
  ow : wi.ownsRow w4.heap.size 54 5 so os.length (os.flatMap Mac.cells)
  ne : ∀ g, vm.ownBlock = some g → so.ownBlock ≠ some g
  gr : Grew (fun b => b = G) w4 wi

theorem KSt.begin {w4 : World} {G : Nat} {nm : ByteArray} (h : w4.heap[G]? = some (.cells #[.string nm, .slice none 0 0, .slice none 0 0] 58 (0, 0))) : KSt w4 G nm [] [] w4 (.slice none 0 0) (.slice none 0 0) :=
  ⟨h, World.ownsRow_nil _ _ _ _, World.ownsRow_nil _ _ _ _, fun g e => (by cases e), Grew.refl _ _⟩
theorem KSt.below {w4 wi w' : World} {G : Nat} {nm : ByteArray} {ms : List Mend} {os : List Mac} {so vm : Value} (h : KSt w4 G nm ms os wi so vm) (hb : Below wi.heap.size wi w') : KSt w4 G nm ms os w' so vm :=
  ⟨(hb.block G (blk_lt h.gb)).trans h.gb, own_below h.mn hb, own_below h.ow hb, h.ne, h.gr.on hb⟩
theorem own_type {w : World} {base : Nat} {e : TypeId} {size n : Nat} {v : Value} {xs : List Value} (h : w.ownsRow base e size v n xs) {g : Nat} (hg : v.ownBlock = some g) : ∃ cur, w.heap[g]? = some (.cells cur e (0, 0)) := by
  rcases h.2 with ⟨rfl, _⟩ | ⟨g', cap, cur, rfl, _, hh, _⟩
  · cases hg
  · obtain rfl : g' = g := Option.some.inj hg
    exact ⟨cur, hh⟩
theorem KSt.setM {w4 wi : World} {G M j : Nat} {nm : ByteArray} {ms : List Mend} {os : List Mac} {so vm : Value} {a : Array Value} (h : KSt w4 G nm ms os wi so vm) (hM : wi.heap[M]? = some (.cells a 54 (0, 0))) (hs : ∀ g, so.ownBlock = some g → g < M) (hG : G < M) (hl : w4.heap.size ≤ M) (u : Value) :
    KSt w4 G nm ms os (wi.setCell ⟨M, j, none⟩ u) so vm := by
  refine ⟨blk_other h.gb (by omega) _, own_setCell_other h.mn (fun e => ?_) _, own_setCell_other h.ow (fun e => ?_) _, h.ne, h.gr.setCell _ (.inr hl) _⟩
  · obtain ⟨cur, hc⟩ := own_type h.mn e
    rw [hM] at hc
    cases hc
  · have := hs _ e
    simp at this
theorem KSt.mend {w4 wi w3 : World} {G : Nat} {nm : ByteArray} {ms : List Mend} {os : List Mac} {so vm : Value} (h : KSt w4 G nm ms os wi so vm) (hG : G < w4.heap.size) (o : Obj) (x : Mend) {g n cap : Nat}
    (hown : w3.ownsRow w4.heap.size 84 2 (.slice (some ⟨g, 0, none⟩) n cap) n (ms.flatMap Mend.cells ++ [.int .i64 x.at_, .string x.name])) (hn : n = ms.length + 1) (hg : (wi.alloc o).grownBy w3 vm.ownBlock) (hat : vm.ownBlock = some g ∨ g = (wi.alloc o).heap.size) :
    w3.heap[G]? = some (.cells #[.string nm, .slice none 0 0, vm] 58 (0, 0)) ∧ KSt w4 G nm (ms ++ [x]) os (w3.setCell ⟨G, 2, none⟩ (.slice (some ⟨g, 0, none⟩) n cap)) so (.slice (some ⟨g, 0, none⟩) n cap) := by
  have hGl := blk_lt h.gb
  have hv := h.mn.lt
  have hs := h.ow.lt
  have hG3 : w3.heap[G]? = some (.cells #[.string nm, .slice none 0 0, vm] 58 (0, 0)) := (hg.block G (by simp; omega) (fun e => by have := (hv _ e.symm).1; omega)).trans (blk_alloc h.gb o)
  have hgs : so.ownBlock ≠ some g := by
    rcases hat with e | e
    · exact h.ne g e
    · intro e'
      have := (hs _ e').2
      simp at e
      omega
  have hgg : w4.heap.size ≤ g := by
    rcases hat with e | e
    · exact (hv _ e).1
    · have := h.gr.size
      simp at e
      omega
  have how : w3.ownsRow w4.heap.size 54 5 so os.length (os.flatMap Mac.cells) := by
    refine (own_below h.ow ((Below.refl _ _).alloc (Nat.le_refl _) o)).kept hg ?_
    cases hvo : vm.ownBlock with
    | none => cases hso : so.ownBlock <;> simp
    | some k => exact .inr (h.ne k hvo)
  refine ⟨hG3, ⟨?_, ?_, own_setCell_other how (fun e => ?_) _, fun k e => ?_, ?_⟩⟩
  · rw [block_set hG3]
    rfl
  · rw [List.flatMap_append, List.length_append]
    subst hn
    exact own_setCell_other (by simpa [Mend.cells] using hown) (fun e => by
      have : g = G := Option.some.inj e
      omega) _
  · have := (hs _ e).1
    simp at this
    omega
  · obtain rfl : g = k := Option.some.inj e
    exact hgs
  · exact ((h.gr.alloc o).trans (Grew.of_grown hg) fun j hj e => by have := (hv _ e).1; omega).setCell _ (.inl rfl) _
theorem KSt.mac {w4 wi w3 : World} {G : Nat} {nm : ByteArray} {ms : List Mend} {os : List Mac} {so vm : Value} (h : KSt w4 G nm ms os wi so vm) (hG : G < w4.heap.size) (o : Obj) (x : Mac) {g n cap : Nat}
    (hown : w3.ownsRow w4.heap.size 54 5 (.slice (some ⟨g, 0, none⟩) n cap) n (os.flatMap Mac.cells ++ [.int .i64 x.op, .int .i64 x.dst, .int .i64 x.a, .int .i64 x.b, .int .i64 x.n])) (hn : n = os.length + 1) (hg : (wi.alloc o).grownBy w3 so.ownBlock) (hat : so.ownBlock = some g ∨ g = (wi.alloc o).heap.size) :
    KSt w4 G nm ms (os ++ [x]) w3 (.slice (some ⟨g, 0, none⟩) n cap) vm := by
  have hGl := blk_lt h.gb
  have hv := h.mn.lt
  have hs := h.ow.lt
  have hG3 : w3.heap[G]? = some (.cells #[.string nm, .slice none 0 0, vm] 58 (0, 0)) := (hg.block G (by simp; omega) (fun e => by have := (hs _ e.symm).1; omega)).trans (blk_alloc h.gb o)
  refine ⟨hG3, ?_, ?_, fun k e e' => ?_, ?_⟩
  · refine (own_below h.mn ((Below.refl _ _).alloc (Nat.le_refl _) o)).kept hg ?_
    cases hso : so.ownBlock with
    | none => cases hvo : vm.ownBlock <;> simp
    | some k => exact .inr (fun e => h.ne k e hso)
  · rw [List.flatMap_append, List.length_append]
    subst hn
    simpa [Mac.cells] using hown
  · obtain rfl : g = k := Option.some.inj e'
    rcases hat with e2 | e2
    · exact h.ne g e e2
    · have := (hv _ e).2
      simp at e2
      omega
  · exact (h.gr.alloc o).trans (Grew.of_grown hg) fun j hj e => by have := (hs _ e).1; omega
theorem mendName_eq (len n : Nat) (main : Bool) (nn : Nat) : mendName len n main (nn : Int) = if (decide (len ≤ nn) || decide (n ≤ nn)) = true then nameAway else if (decide (nn = 0) && main) = true then nameMain else nameF nn := by
  unfold mendName
  by_cases a1 : len ≤ nn ∨ n ≤ nn
  · rw [if_pos (show (len : Int) ≤ (nn : Int) ∨ (n : Int) ≤ (nn : Int) by omega), if_pos (by simpa using a1)]
  · rw [if_neg (show ¬ ((len : Int) ≤ (nn : Int) ∨ (n : Int) ≤ (nn : Int)) by omega), if_neg (show ¬ (decide (len ≤ nn) || decide (n ≤ nn)) = true by simpa using a1)]
    by_cases a3 : nn = 0 ∧ main = true
    · rw [if_pos (show ((nn : Int) = 0 ∧ main = true) from ⟨by omega, a3.2⟩), if_pos (by simp [a3.1, a3.2])]
    · rw [if_neg (show ¬ ((nn : Int) = 0 ∧ main = true) from fun h => a3 ⟨by omega, h.2⟩), if_neg (by simpa using a3)]
      rfl
end Go.Proofs.YtcakodemngchpaaGreatDoor

/- turnerykit.ObjectOf: an object of raw numbers. -/
namespace Go.Proofs.YtcakodemngchpaaGreatDoor
open Go.RowKit
set_option linter.unusedSimpArgs false
set_option linter.unusedVariables false

theorem name_app (k : Nat) (hk : k < 10) : (⟨#[102]⟩ : ByteArray) ++ digitS k = nameF k := by
  match k, hk with
  | 0, _ => rfl
  | 1, _ => rfl
  | 2, _ => rfl
  | 3, _ => rfl
  | 4, _ => rfl
  | 5, _ => rfl
  | 6, _ => rfl
  | 7, _ => rfl
  | 8, _ => rfl
  | 9, _ => rfl
theorem raw_at {w : World} {B : Nat} {xs : List (List Int)} {A : Option Addr} {n c k : Nat} (h : rpInt.slice.SL w B xs (.slice A n c)) (hk : k < xs.length) : ∃ b off v, A = some ⟨b, off, none⟩ ∧ b < B ∧ rpInt.SL w B (xs.getD k []) v ∧ w.cell? ⟨b, off + k, none⟩ = some v := by
  obtain ⟨b, off, cs, hA, hb, ⟨v, rfl, hv⟩, hcs⟩ := h.at_ (List.getElem?_eq_getElem hk)
  refine ⟨b, off, v, hA, hb, ?_, ?_⟩
  · rw [List.getD_eq_getElem?_getD, List.getElem?_eq_getElem hk]
    exact hv
  · have := hcs 0 v rfl
    simpa [Rp.slice] using this

set_option maxRecDepth 100000 in
set_option maxHeartbeats 8000000 in
theorem KitObject_calls (raw : List (List Int)) (v : Value) (n : Nat) (main : Bool) (w : World) (h : rpInt.slice.SL w w.heap.size raw v) (hraw : ∀ l ∈ raw, ∀ x ∈ l, I64 x) (hn : n ≤ 10) (R : Ending → World → Prop)
    (hR : ∀ w' u1 u2, Below w.heap.size w w' → rpGlobal.SLF w' w.heap.size w'.heap.size (objOf raw n main).globals u1 → rpSection.SLF w' w.heap.size w'.heap.size (objOf raw n main).sections u2 → R (.returned (.agg #[u1, u2])) w') :
    Calls Tryz.prog 12 #[v, .int .i64 (n : Int), .bool main] w R := by
  obtain ⟨A, c, rfl, hm, hcap, h⟩ := h.cases_
  obtain ⟨iS, hiS, zS0, zS1, zS2⟩ := info_parts info_Section
  obtain ⟨iM, hiM, zM0, zM1, zM2⟩ := info_parts info_Mend
  obtain ⟨iC, hiC, zC0, zC1, zC2⟩ := info_parts info_Mac
  have HR := Lib.hid hR
  have H := Lib.hid h
  have Hraw := Lib.hid hraw
  clear hR h hraw
  obtain ⟨W0, hW0⟩ : ∃ W0, W0 = w.alloc (Obj.cells #[.slice none 0 0, .slice none 0 0] 40) := ⟨_, rfl⟩
  have hz0 : W0.heap.size = w.heap.size + 1 := by subst hW0; simp
  have hQ0 : W0.heap[w.heap.size]? = some (.cells #[.slice none 0 0, .slice none 0 0] 40 (0, 0)) := by subst hW0; exact heap_alloc_new _ _
  have hb0 : Below w.heap.size w W0 := by subst hW0; exact bl0
  have HW := Lib.hid hW0.symm
  have HQ0 := Lib.hid hQ0
  have Hb0 := Lib.hid hb0
  clear hW0 hQ0 hb0
  go_enter Tryz.func12, Tryz.ntmps12
  go_wp2_with fail
  rw [HW.out]
  refine KitGlobals_calls _ _ (fun w1 v1 hb1 hg1 => ?_)
  obtain ⟨A1, n1, rfl, _, _, hg1⟩ := hg1.cases_
  have hz1 := hb1.size
  obtain ⟨W1, hW1⟩ : ∃ W1, W1 = w1.alloc (Obj.cells #[.slice A1 kitGlobals.length n1, .slice none 0 0] 40) := ⟨_, rfl⟩
  have hO1 : W1.heap[w1.heap.size]? = some (.cells #[.slice A1 kitGlobals.length n1, .slice none 0 0] 40 (0, 0)) := by subst hW1; exact heap_alloc_new _ _
  have hzW1 : W1.heap.size = w1.heap.size + 1 := by subst hW1; simp
  have hQ1 : W1.heap[w.heap.size]? = some (.cells #[.slice none 0 0, .slice none 0 0] 40 (0, 0)) := by subst hW1; exact blk_alloc ((hb1.block _ (by omega)).trans HQ0.out) _
  have hg2 : rpGlobal.SLF W1 W0.heap.size w1.heap.size kitGlobals (.slice A1 kitGlobals.length n1) := by subst hW1; exact hg1.keepB (w' := w1.alloc _) fun k _ hk => Below.heap_alloc _ _ _ hk
  have hbW1 : Below w.heap.size w W1 := by subst hW1; exact (Hb0.out.trans (hb1.mono (by omega))).alloc (by omega) _
  have HW1 := Lib.hid hW1.symm
  have HO1 := Lib.hid hO1
  have HQ1 := Lib.hid hQ1
  have Hg2 := Lib.hid hg2
  have HbW1 := Lib.hid hbW1
  clear hb1 hg1 hW1 hO1 hQ1 hg2 hbW1
  obtain ⟨L, hL⟩ : ∃ L, L = kitGlobals.length := ⟨_, rfl⟩
  rw [← hL] at HW1 HO1 Hg2 ⊢
  have HL := Lib.hid hL
  clear hL
  go_wp2_with fail
  rw [HW1.out]
  go_loopg [8, 9, 10, 11, 12, 13, 14] (min raw.length n) (fun gh s8 s9 s10 s11 s12 s13 s14 wr => ∃ (k : Nat) (vo : Value) (css : List (List Value)), k ≤ min raw.length n ∧ gh = min raw.length n - k ∧ s8 = .int .i64 (k : Int) ∧ Fb rpSection 58 40 (fun v => #[.slice A1 L n1, v]) w1.heap.size W1 wr vo ((List.range k).map (secOf raw n main)) css)
  case atStart => exact ⟨0, _, [], Nat.zero_le _, rfl, rfl, Fb.begin HO1.out⟩
  case round =>
    obtain ⟨k, vo, css, hk, rfl, rfl, hfb⟩ := hrel
    have Hfb := Lib.hid hfb
    have hzr := hfb.gr.size
    have i1 : (0 : Int) ≤ (k : Int) := Int.natCast_nonneg _
    by_cases hlt : k < min raw.length n
    · have i2 : (k : Int) < (raw.length : Int) := by omega
      have i3 : (k : Int) < (n : Int) := by omega
      clear hfb
      go_wp2_with fail
      refine Digits_calls k (by omega) _ _ ?_
      go_upto_region 6 with fail
      rw [name_app k (by omega)]
      obtain ⟨W2, hW2⟩ : ∃ W2, W2 = wr.alloc (Obj.cells #[.string (nameF k), .slice none 0 0, .slice none 0 0] 58) := ⟨_, rfl⟩
      have hG2 : W2.heap[wr.heap.size]? = some (.cells #[.string (nameF k), .slice none 0 0, .slice none 0 0] 58 (0, 0)) := by subst hW2; exact heap_alloc_new _ _
      have hzW2 : W2.heap.size = wr.heap.size + 1 := by subst hW2; simp
      have hb2 : Below wr.heap.size wr W2 := by subst hW2; exact (Below.refl _ _).alloc (Nat.le_refl _) _
      have hlG : wr.heap.size < W2.heap.size := by omega
      have HG2 := Lib.hid hG2
      have Hb2 := Lib.hid hb2
      rw [← hW2]
      clear hG2 hb2 hW2 hzW2
      obtain ⟨q, hq⟩ : ∃ q : Bool, q = (main && decide (k = 0)) := ⟨_, rfl⟩
      have Hq := Lib.hid hq
      clear hq
      go_cut [36] (fun s36 wx => s36 = .bool q ∧ wx = W2)
      case first =>
        cases main
        · go_wp2
          go_meet
          exact ⟨by rw [Hq.out]; rfl, rfl⟩
        · by_cases hk0 : k = 0
          · have hkb : ((k : Int) == 0) = true := by simp [hk0]
            have Hk0 := Lib.hid hk0
            clear hk0
            go_wp2
            go_meet
            exact ⟨by rw [Hq.out, Hk0.out]; rfl, rfl⟩
          · have hkb : ((k : Int) == 0) = false := by simp [hk0]
            have Hk0 := Lib.hid hk0
            clear hk0
            go_wp2
            go_meet
            exact ⟨by rw [Hq.out]; simp [Hk0.out], rfl⟩
      case rest =>
        obtain ⟨rfl, rfl⟩ := hcut
        rename World => W2
        go_upto_if 36 with fail
        go_cut [] (fun wx => wx.heap[wr.heap.size]? = some (.cells #[.string (nameS main k), .slice none 0 0, .slice none 0 0] 58 (0, 0)) ∧ Below wr.heap.size wr wx)
        case first =>
          obtain ⟨d0, d1, d2, y0, y1, y2⟩ := three_cells HG2.out
          cases q
          · have hnm : nameS main k = nameF k := by
              have h := Hq.out
              unfold nameS
              rw [if_neg]
              rintro ⟨h1, h2⟩
              rw [h1, h2] at h
              cases h
            have Hnm := Lib.hid hnm
            clear hnm
            go_wp2
            go_meet
            rw [Hnm.out]
            exact ⟨HG2.out, Hb2.out⟩
          · have hnm : nameS main k = nameMain := by
              have h := Hq.out.symm
              rw [Bool.and_eq_true, decide_eq_true_eq] at h
              unfold nameS
              rw [if_pos h]
            have Hnm := Lib.hid hnm
            clear hnm
            go_wp2
            go_meet
            rw [Hnm.out]
            exact ⟨(three_set HG2.out).1 _, Hb2.out.setCell (p := ⟨wr.heap.size, 0, none⟩) (Nat.le_refl _) _⟩
        case rest =>
          rename World => W3
          obtain ⟨hG3, hb3⟩ := hcut
          have hz3 := hb3.size
          have hbw3 : Below w.heap.size w W3 := (HbW1.out.trans (Hfb.out.gr.below (fun j hj e => by omega) (by omega))).trans (hb3.mono (by omega))
          obtain ⟨b, off, vl, hA, hb, hvl, hq0⟩ := raw_at H.out (show k < raw.length by omega)
          subst hA
          obtain ⟨Al, nl, rfl, _, _, hvl⟩ := hvl.cases_
          have r0 := (hbw3.cell (p := ⟨b, off + k, none⟩) hb).trans hq0
          have hll : ∀ x ∈ raw.getD k [], I64 x := Hraw.out _ (by rw [List.getD_eq_getElem?_getD, List.getElem?_eq_getElem (show k < raw.length by omega)]; exact List.getElem_mem _)
          have HG3 := Lib.hid hG3
          have Hb3 := Lib.hid hb3
          have hlG3 : wr.heap.size < W3.heap.size := (Array.getElem?_eq_some_iff.mp hG3).1
          have Hll := Lib.hid hll
          have hvl3 := Lib.hid (hvl.up hbw3 hbw3.size)
          generalize hlk : raw.getD k [] = lk at *
          have Hlk := Lib.hid hlk
          clear hG3 hb3 hbw3 hq0 hll hvl hlk
          go_wp2_with fail
          refine CodeOf_calls lk _ 8 4 _ hvl3.out Hll.out (by decide) (by decide) _ (fun w4 v4 hb4 hown4 => ?_)
          have hz4 := hb4.size
          have hsl4 := SLMac_own hown4 (Nat.le_refl _)
          have htrue := codeOf_true (n := 8) (r := 4) Hll.out (by decide) (by decide)
          have hcall : ∀ m ∈ codeOf lk 8 4, m.op = 44 → 0 ≤ m.n ∧ m.n < 4 := codeOf_call
          have hclen : (codeOf lk 8 4).length ≤ 9 := by rw [codeOf_len]; unfold codeMany; omega
          obtain ⟨cd, hcd⟩ : ∃ cd, cd = codeOf lk 8 4 := ⟨_, rfl⟩
          rw [← hcd] at hown4 hsl4 htrue hcall hclen
          obtain ⟨A4, c4, rfl, _, _, hsl4⟩ := hsl4.cases_
          have hG4 := (hb4.block _ (by omega)).trans HG3.out
          have Hcd := Lib.hid hcd
          have Hown4 := Lib.hid hown4
          have Hsl4 := Lib.hid hsl4
          have Htrue := Lib.hid htrue
          have Hcall := Lib.hid hcall
          have HG4 := Lib.hid hG4
          have Hb4 := Lib.hid (Hb3.out.trans (hb4.mono (by omega)))
          clear hown4 hsl4 htrue hcall hcd hb4 hG4 r0
          have hlG4 : wr.heap.size < w4.heap.size := by omega
          obtain ⟨nm, hnm⟩ : ∃ nm, nm = nameS main k := ⟨_, rfl⟩
          rw [← hnm] at HG4
          have Hnm := Lib.hid hnm
          obtain ⟨F, hF⟩ : ∃ F, F = mendName raw.length n main := ⟨_, rfl⟩
          have HF := Lib.hid hF
          clear hnm hF HG3 Hb3 hvl3
          go_upto_block 2 with fail
          go_cut [11] (fun s11 wx => ∃ vm, KSt w4 wr.heap.size nm (mendsAt F 0 cd) (cd.map ownM) wx s11 vm)
          case first =>
            go_wp2_with fail
            go_loopg [11, 12, 13, 14] cd.length (fun gi s11 s12 s13 s14 wi => ∃ (i : Nat) (vm : Value), i ≤ cd.length ∧ gi = cd.length - i ∧ s12 = .int .i64 (i : Int) ∧ KSt w4 wr.heap.size nm (mendsAt F 0 (cd.take i)) ((cd.take i).map ownM) wi s11 vm)
            case atStart => exact ⟨0, _, Nat.zero_le _, rfl, rfl, KSt.begin HG4.out⟩
            case round =>
              rename World => wi
              obtain ⟨i, vm, hi, rfl, rfl, hst⟩ := hrel
              have hzi := hst.gr.size
              have i1 : (0 : Int) ≤ (i : Int) := Int.natCast_nonneg _
              by_cases hlt : i < cd.length
              · have i2 : (i : Int) < (cd.length : Int) := by omega
                have e : cd[i]? = some cd[i] := List.getElem?_eq_getElem hlt
                obtain ⟨g4, cap4, hA4, hg4, hg4l, _, _⟩ := own_some Hown4.out (by omega)
                cases hA4
                obtain ⟨b', off', cs', hA', _, hr', hcs'⟩ := Hsl4.out.at_ e
                cases hA'
                rw [rpMac_rep] at hr'
                subst hr'
                have hm1 : mendsAt F 0 (cd.take (i + 1)) = mendsAt F 0 (cd.take i) ++ (if cd[i].op = 44 then [⟨(i : Int), F cd[i].n⟩] else []) := by
                  rw [take_snoc e, mendsAt_append, List.length_take, Nat.min_eq_left hi, Nat.zero_add]
                  rfl
                have hm2 : (cd.take (i + 1)).map ownM = (cd.take i).map ownM ++ [ownM cd[i]] := by
                  rw [take_snoc e, List.map_append]
                  rfl
                have hcl := Hcall.out _ (List.getElem_mem hlt)
                have HM1 := Lib.hid hm1
                have HM2 := Lib.hid hm2
                have hol : ((cd.take i).map ownM).length = i := by rw [List.length_map, List.length_take]; omega
                have hml : (mendsAt F 0 (cd.take i)).length ≤ i := by
                  rw [mendsAt_len]
                  have := List.length_filter_le (fun m : Mac => m.op == 44) (cd.take i)
                  rw [List.length_take] at this
                  omega
                have hgb : ∀ j, wi.cell? ⟨g4, j, none⟩ = w4.cell? ⟨g4, j, none⟩ := fun j => World.cell?_of_block (hst.gr.block g4 hg4l (by omega))
                have p0 := (hgb _).trans (hcs' 0 _ rfl)
                have p1 := (hgb _).trans (hcs' 1 _ rfl)
                have p2 := (hgb _).trans (hcs' 2 _ rfl)
                have p3 := (hgb _).trans (hcs' 3 _ rfl)
                have p4 := (hgb _).trans (hcs' 4 _ rfl)
                simp only [rpMac_size, Nat.zero_add, Nat.add_zero] at p0 p1 p2 p3 p4
                have hsl := hst.ow.lt
                have hmll := hst.mn.lt
                have how := hst.ow
                rw [hol] at how
                obtain ⟨A11, c11, rfl⟩ := own_slice how
                obtain ⟨A12, c12, rfl⟩ := own_slice hst.mn
                obtain ⟨m, hm⟩ : ∃ m, m = cd[i] := ⟨_, rfl⟩
                rw [← hm] at p0 p1 p2 p3 p4 hcl HM1 HM2
                generalize hos : (cd.take i).map ownM = os at *
                generalize hms : mendsAt F 0 (cd.take i) = ms at *
                obtain ⟨op, dst, ra, rb, mn⟩ := m
                simp only [] at p0 p1 p2 p3 p4 hcl HM1 HM2
                have Hst := Lib.hid hst
                have Hsll := Lib.hid hsl
                have Hmll := Lib.hid hmll
                have Hol := Lib.hid hol
                clear hm1 hm2 hcs' hgb hst e hos hms hm hsl hmll how hol
                go_upto_if 55 with fail
                obtain ⟨W5, hW5⟩ : ∃ W5, W5 = wi.alloc (Obj.cells #[.int .i64 op, .int .i64 dst, .int .i64 ra, .int .i64 rb, .int .i64 mn] 54) := ⟨_, rfl⟩
                have hM5 : W5.heap[wi.heap.size]? = some (.cells (Mac.arr ⟨op, dst, ra, rb, mn⟩) 54 (0, 0)) := by subst hW5; exact heap_alloc_new _ _
                have hz5 : W5.heap.size = wi.heap.size + 1 := by subst hW5; simp
                have hst5 := Hst.out.below (show Below wi.heap.size wi W5 by subst hW5; exact bl0)
                rw [← hW5]
                have Hst5 := Lib.hid hst5
                have HM5 := Lib.hid hM5
                have hMl : wi.heap.size < W5.heap.size := by omega
                have hGM : wr.heap.size < wi.heap.size := by omega
                clear hW5 hst5 hM5 p0 p1 p2 p3 p4 Hst hz5
                go_cut [] (fun wx => ∃ vm, KSt w4 wr.heap.size nm (ms ++ (if op = 44 then [⟨(i : Int), F mn⟩] else [])) os wx (.slice A11 i c11) vm ∧ wx.heap[wi.heap.size]? = some (.cells (Mac.arr (ownM ⟨op, dst, ra, rb, mn⟩)) 54 (0, 0)))
                case first =>
                  by_cases hop : op = 44
                  · subst hop
                    obtain ⟨hn0, hn4⟩ := hcl rfl
                    obtain ⟨nn, rfl⟩ : ∃ nn : Nat, mn = (nn : Int) := ⟨mn.toNat, by omega⟩
                    obtain ⟨d0, d1, d2, d3, d4, dz⟩ := cells_of_arr HM5.out
                    simp only [] at d0 d1 d2 d3 d4
                    obtain ⟨q, hq⟩ : ∃ q : Bool, q = (decide (nn = 0) && main) := ⟨_, rfl⟩
                    obtain ⟨q2, hq2⟩ : ∃ q : Bool, q = (decide (raw.length ≤ nn) || decide (n ≤ nn)) := ⟨_, rfl⟩
                    obtain ⟨nx, hnx⟩ : ∃ nx, nx = if q = true then nameMain else nameF nn := ⟨_, rfl⟩
                    have hname : F (nn : Int) = if q2 = true then nameAway else nx := by
                      rw [HF.out, hnx, hq, hq2]
                      exact mendName_eq _ _ _ _
                    have Hnx := Lib.hid hnx
                    have Hname := Lib.hid hname
                    have Hq := Lib.hid hq
                    have Hq2 := Lib.hid hq2
                    clear hname hq hq2 hnx
                    go_wp2_with fail
                    refine Digits_calls nn (by omega) _ _ ?_
                    go_upto_region 16 with fail
                    rw [name_app nn (by omega)]
                    go_cut [65] (fun s65 wx => s65 = .bool q ∧ wx = W5)
                    case first =>
                      by_cases hk0 : nn = 0
                      · have hkb : ((nn : Int) == 0) = true := by simp [hk0]
                        have Hk0 := Lib.hid hk0
                        clear hk0
                        go_wp2
                        go_meet
                        exact ⟨by rw [Hq.out, Hk0.out]; simp, rfl⟩
                      · have hkb : ((nn : Int) == 0) = false := by simp [hk0]
                        have Hk0 := Lib.hid hk0
                        clear hk0
                        go_wp2
                        go_meet
                        exact ⟨by rw [Hq.out]; simp [Hk0.out], rfl⟩
                    case rest =>
                      obtain ⟨rfl, rfl⟩ := hcut
                      rename World => W5
                      go_upto_if 65 with fail
                      go_cut [14] (fun s14 wx => s14 = .string nx ∧ wx = W5)
                      case first =>
                        cases q
                        · have e := Hnx.out
                          rw [if_neg (by simp)] at e
                          have E := Lib.hid e.symm
                          clear e
                          go_wp2
                          go_meet
                          exact ⟨by rw [E.out], rfl⟩
                        · have e := Hnx.out
                          rw [if_pos rfl] at e
                          have E := Lib.hid e.symm
                          clear e
                          go_wp2
                          go_meet
                          exact ⟨by rw [← E.out]; rfl, rfl⟩
                      case rest =>
                        obtain ⟨rfl, rfl⟩ := hcut
                        rename World => W5
                        go_upto_region 18 with fail
                        go_cut [76] (fun s76 wx => s76 = .bool q2 ∧ wx = W5)
                        case first =>
                          by_cases a1 : raw.length ≤ nn
                          · have b1 : (raw.length : Int) ≤ (nn : Int) := by omega
                            go_wp2
                            go_meet
                            exact ⟨by rw [Hq2.out]; simp [a1], rfl⟩
                          · have b1 : ¬ (raw.length : Int) ≤ (nn : Int) := by omega
                            by_cases a2 : n ≤ nn
                            · have b2 : (n : Int) ≤ (nn : Int) := by omega
                              go_wp2
                              go_meet
                              exact ⟨by rw [Hq2.out]; simp [a2], rfl⟩
                            · have b2 : ¬ (n : Int) ≤ (nn : Int) := by omega
                              go_wp2
                              go_meet
                              exact ⟨by rw [Hq2.out]; simp [a1, a2], rfl⟩
                        case rest =>
                          obtain ⟨rfl, rfl⟩ := hcut
                          rename World => W5
                          go_upto_if 76 with fail
                          obtain ⟨ny, hny⟩ : ∃ ny, ny = F (nn : Int) := ⟨_, rfl⟩
                          have Hny := Lib.hid hny
                          clear hny
                          go_cut [14] (fun s14 wx => s14 = .string ny ∧ wx = W5)
                          case first =>
                            cases q2
                            · have e := Hny.out
                              rw [Hname.out, if_neg (by simp)] at e
                              have E := Lib.hid e
                              clear e
                              go_wp2
                              go_meet
                              exact ⟨by rw [E.out], rfl⟩
                            · have e := Hny.out
                              rw [Hname.out, if_pos rfl] at e
                              have E := Lib.hid e
                              clear e
                              go_wp2
                              go_meet
                              exact ⟨by rw [E.out]; rfl, rfl⟩
                          case rest =>
                            obtain ⟨rfl, rfl⟩ := hcut
                            rename World => W5
                            obtain ⟨t0, t1, t2, y0, y1, y2⟩ := three_cells Hst5.out.gb
                            have hzz5 := Hst5.out.gr.size
                            have hW : Hid ((W5.alloc (Obj.cells #[.int .i64 (i : Int), .string ny] 84)).ownsRow w4.heap.size 84 2 (.slice A12 ms.length c12) ms.length (ms.flatMap Mend.cells)) := Lib.hid (Hst5.out.mn.alloc _)
                            go_wp2_with (at_builtin; refine wpList_append_lies _ rfl _ _ 56 rfl w4.heap.size 84 iM _ 2 24 Tryz.underlying56 hiM zM0 zM1 zM2 rfl (by decide) (.slice A12 ms.length c12) ms.length (ms.flatMap Mend.cells) rfl hW.out ⟨W5.heap.size, 0, none⟩ 1 1 [.int .i64 (i : Int), .string ny] rfl rfl ?_ ?_ (by decide) ?_ ?_ ?_ _ rfl ?_)
                            any_goals (first | exact World.news_of_block (cs := #[.int .i64 (i : Int), .string ny]) (t := 84) (fr := (0, 0)) (heap_alloc_new _ _) | (simp [Value.oneCell']; done) | (unfold maxLen; omega) | omega | (simp; done) | (simp; omega))
                            intro gb cap2 w7 hown7 hgrow7 hat7 hlt7
                            obtain ⟨hG7, hst7⟩ := Hst5.out.mend hlG4 (Obj.cells #[.int .i64 (i : Int), .string ny] 84) ⟨(i : Int), ny⟩ hown7 rfl hgrow7 (by simpa using hat7)
                            have hM7 := (hgrow7.block wi.heap.size (by simp; omega) (fun e => by have := (Hmll.out _ e.symm).2; omega)).trans (blk_alloc HM5.out _)
                            have hM8 := blk_other (c := wr.heap.size) (j := 2) hM7 (by omega) (.slice (some ⟨gb, 0, none⟩) (ms.length + 1) cap2)
                            have hfin : Hid (KSt w4 wr.heap.size nm (ms ++ (if (44 : Int) = 44 then [⟨(i : Int), F (nn : Int)⟩] else [])) os ((w7.setCell ⟨wr.heap.size, 2, none⟩ (.slice (some ⟨gb, 0, none⟩) (ms.length + 1) cap2)).setCell ⟨wi.heap.size, 4, none⟩ (.int .i64 0)) (.slice A11 i c11) (.slice (some ⟨gb, 0, none⟩) (ms.length + 1) cap2) ∧ ((w7.setCell ⟨wr.heap.size, 2, none⟩ (.slice (some ⟨gb, 0, none⟩) (ms.length + 1) cap2)).setCell ⟨wi.heap.size, 4, none⟩ (.int .i64 0)).heap[wi.heap.size]? = some (.cells (Mac.arr (ownM ⟨44, dst, ra, rb, (nn : Int)⟩)) 54 (0, 0))) := Lib.hid ⟨by
                              rw [if_pos rfl, ← Hny.out]
                              exact hst7.setM hM8 (fun g e => (Hsll.out _ e).2) (by omega) (by omega) _, by
                              rw [block_set hM8]
                              rfl⟩
                            clear t0 t1 t2 y0 y1 y2 d0 d1 d2 d3 d4 dz
                            obtain ⟨t0, t1, t2, y0, y1, y2⟩ := three_cells hG7
                            obtain ⟨d0, d1, d2, d3, d4, dz⟩ := cells_of_arr hM7
                            have hz7 : W5.heap.size < w7.heap.size := by
                              have := hgrow7.size
                              simp at this
                              omega
                            have hG7l : wr.heap.size < w7.heap.size := by omega
                            have hM7l : wi.heap.size < w7.heap.size := by omega
                            clear hst7 hown7 hgrow7 hat7 hG7 hM7 hM8
                            go_wp2
                            go_meet
                            exact ⟨_, hfin.out⟩
                  · have hob : (op == 44) = false := by simp [hop]
                    have hfin : Hid (∃ vm, KSt w4 wr.heap.size nm (ms ++ (if op = 44 then [⟨(i : Int), F mn⟩] else [])) os W5 (.slice A11 i c11) vm ∧ W5.heap[wi.heap.size]? = some (.cells (Mac.arr (ownM ⟨op, dst, ra, rb, mn⟩)) 54 (0, 0))) := Lib.hid ⟨_, by rw [if_neg hop, List.append_nil]; exact Hst5.out, by rw [show ownM ⟨op, dst, ra, rb, mn⟩ = ⟨op, dst, ra, rb, mn⟩ from by unfold ownM; rw [if_neg hop]]; exact HM5.out⟩
                    go_wp2
                    go_meet
                    exact hfin.out
                case rest =>
                  rename World => w8
                  obtain ⟨vm8, hst8, hM8⟩ := hcut
                  obtain ⟨m', hm'⟩ : ∃ m', m' = ownM ⟨op, dst, ra, rb, mn⟩ := ⟨_, rfl⟩
                  rw [← hm'] at hM8 HM2
                  have hz8 := hst8.gr.size
                  obtain ⟨d0, d1, d2, d3, d4, dz⟩ := cells_of_arr hM8
                  have how8 := hst8.ow
                  rw [Hol.out] at how8
                  have hW : Hid ((w8.alloc (Obj.cells #[.int .i64 m'.op, .int .i64 m'.dst, .int .i64 m'.a, .int .i64 m'.b, .int .i64 m'.n] 54)).ownsRow w4.heap.size 54 5 (.slice A11 i c11) i (os.flatMap Mac.cells)) := Lib.hid (how8.alloc _)
                  have Hst8 := Lib.hid hst8
                  clear hst8 how8 hM8 hm' HM5 Hst5
                  go_wp2_with (at_builtin; refine wpList_append_lies _ rfl _ _ 55 rfl w4.heap.size 54 iC _ 5 40 Tryz.underlying55 hiC zC0 zC1 zC2 rfl (by decide) (.slice A11 i c11) i (os.flatMap Mac.cells) rfl hW.out ⟨w8.heap.size, 0, none⟩ 1 1 [.int .i64 m'.op, .int .i64 m'.dst, .int .i64 m'.a, .int .i64 m'.b, .int .i64 m'.n] rfl rfl ?_ ?_ (by decide) ?_ ?_ ?_ _ rfl ?_)
                  any_goals (first | exact World.news_of_block (cs := #[.int .i64 m'.op, .int .i64 m'.dst, .int .i64 m'.a, .int .i64 m'.b, .int .i64 m'.n]) (t := 54) (fr := (0, 0)) (heap_alloc_new _ _) | (simp [Value.oneCell']; done) | (unfold maxLen; omega) | omega | (simp; done) | (simp; omega))
                  intro gb cap2 w9 hown9 hgrow9 hat9 hlt9
                  have hst9 := Hst8.out.mac hlG4 (Obj.cells #[.int .i64 m'.op, .int .i64 m'.dst, .int .i64 m'.a, .int .i64 m'.b, .int .i64 m'.n] 54) m' hown9 (by rw [Hol.out]) hgrow9 (by simpa using hat9)
                  have Hst9 := Lib.hid hst9
                  clear hst9 hown9 hgrow9 hat9
                  go_wp2
                  go_roundg (cd.length - (i + 1))
                  case measure => omega
                  case rel => exact ⟨i + 1, vm8, by omega, rfl, by go_num, by rw [HM1.out, HM2.out]; exact Hst9.out⟩
              · obtain rfl : i = cd.length := by omega
                rw [List.take_length] at hst
                have Hst := Lib.hid hst
                clear hst
                go_wp2
                go_meet
                exact ⟨vm, Hst.out⟩
          case rest =>
            rename World => wx
            obtain ⟨vm, hst⟩ := hcut
            have hzx := hst.gr.size
            obtain ⟨od, hod⟩ : ∃ od, od = cd.map ownM := ⟨_, rfl⟩
            obtain ⟨mm, hmm⟩ : ∃ mm, mm = mendsAt F 0 cd := ⟨_, rfl⟩
            rw [← hod, ← hmm] at hst
            have hl9 : od.length ≤ 9 := by rw [hod, List.length_map]; exact hclen
            have hgood : Hid (∀ m ∈ od, GoodMac m) := Lib.hid fun m hm => by
              rw [hod] at hm
              obtain ⟨m', h1, rfl⟩ := List.mem_map.1 hm
              exact (ownM_true (Htrue.out _ h1)).toGoodMac
            obtain ⟨cb, hcb⟩ : ∃ cb, cb = codeB od := ⟨_, rfl⟩
            have Hsec : Hid (secOf raw n main k = ⟨nm, cb, mm⟩) := Lib.hid (by
              unfold secOf
              rw [Hnm.out, hcb, hod, hmm, HF.out, Hcd.out, ← Hlk.out])
            have Hcb := Lib.hid hcb
            clear hcb hod hmm
            obtain ⟨A11, c11, rfl⟩ := own_slice hst.ow
            obtain ⟨A12, c12, rfl⟩ := own_slice hst.mn
            have hslM := Lib.hid (SLMac_own hst.ow (Nat.le_refl _))
            have Hst := Lib.hid hst
            clear hst
            go_wp2_with fail
            refine CodeBytes_calls od _ _ hslM.out hgood.out (by omega) _ (fun w5 v5 hb5 hbuf5 => ?_)
            rw [← Hcb.out] at hbuf5
            obtain ⟨A5, c5, rfl⟩ := hbuf5.slice
            have hst5 := Hst.out.below hb5
            have hz5 := hb5.size
            have hb5' := (Hb4.out.trans (Hst.out.gr.below (fun j hj e => by omega) (by omega))).trans (hb5.mono (by omega))
            obtain ⟨t0, t1, t2, y0, y1, y2⟩ := three_cells hst5.gb
            have hlG5 : wr.heap.size < w5.heap.size := by omega
            have hlw : w1.heap.size < wr.heap.size := by omega
            obtain ⟨W6, hW6⟩ : ∃ W6, W6 = w5.setCell ⟨wr.heap.size, 1, none⟩ (.slice A5 cb.length c5) := ⟨_, rfl⟩
            have hG6 : W6.heap[wr.heap.size]? = some (.cells #[.string nm, .slice A5 cb.length c5, .slice A12 mm.length c12] 58 (0, 0)) := by subst hW6; exact (three_set hst5.gb).2.1 _
            have hz6 : W6.heap.size = w5.heap.size := by subst hW6; simp [World.setCell]
            have hb6 : Below wr.heap.size wr W6 := by subst hW6; exact hb5'.setCell (p := ⟨wr.heap.size, 1, none⟩) (Nat.le_refl _) _
            have hbuf6 : Buf W6 wx.heap.size (.slice A5 cb.length c5) cb := by subst hW6; exact hbuf5.keep fun j hj hl => Below.heap_setCell _ _ _ _ (by have := (hbuf5.lt j hj).1; show j ≠ wr.heap.size; omega)
            have hmn6 : W6.ownsRow w4.heap.size 84 2 (.slice A12 mm.length c12) mm.length (mm.flatMap Mend.cells) := by
              subst hW6
              exact own_setCell_other hst5.mn (fun e => by have := (hst5.mn.lt _ e).1; simp at this; omega) _
            have hfb6 := Hfb.out.take hb6
            have HW6 := Lib.hid hW6.symm
            obtain ⟨A2, n2, hv2⟩ : ∃ A c, vo = .slice A ((List.range k).map (secOf raw n main)).length c := own_slice hfb6.bu.own
            rw [List.length_map, List.length_range] at hv2
            subst hv2
            obtain ⟨ob, hob⟩ : ∃ ob, ob = Obj.cells #[.string nm, .slice A5 cb.length c5, .slice A12 mm.length c12] 58 := ⟨_, rfl⟩
            have hb7 : Below W6.heap.size W6 (W6.alloc ob) := (Below.refl _ _).alloc (Nat.le_refl _) _
            have hz7 : (W6.alloc ob).heap.size = W6.heap.size + 1 := by simp
            have hbuf7 : Buf (W6.alloc ob) wx.heap.size (.slice A5 cb.length c5) cb := hbuf6.below hb7 (Nat.le_refl _)
            have hmn7 : (W6.alloc ob).ownsRow w4.heap.size 84 2 (.slice A12 mm.length c12) mm.length (mm.flatMap Mend.cells) := own_below hmn6 hb7
            generalize hW7 : W6.alloc ob = W7 at *
            have hAp : Apart rpSection (fun b => b < W1.heap.size) W7 (.slice A2 k n2) (secOf raw n main k) [.string nm, .slice A5 cb.length c5, .slice A12 mm.length c12] := by
              rw [Hsec.out]
              have s1 : rpByte.SL (only W7 fun k => decide (w4.heap.size ≤ k)) W7.heap.size cb (.slice A5 cb.length c5) := by
                have hk : Buf (only W7 fun k => decide (w4.heap.size ≤ k)) wx.heap.size (.slice A5 cb.length c5) cb := hbuf7.keep fun j hj hl => only_heap _ _ _ (by have := (hbuf7.lt j hj).1; simp; omega)
                exact hk.SL (by rw [only_size]; exact Nat.le_refl _)
              have s2 : rpMend.SL (only W7 fun k => decide (w4.heap.size ≤ k)) W7.heap.size mm (.slice A12 mm.length c12) := SLMend_own (ownsRow_only hmn7) (by rw [only_size]; exact Nat.le_refl _)
              have hrep : rpSection.rep (only W7 fun k => decide (w4.heap.size ≤ k)) W7.heap.size (⟨nm, cb, mm⟩ : Section) [.string nm, .slice A5 cb.length c5, .slice A12 mm.length c12] := rpSection_mk (s := ⟨nm, cb, mm⟩) s1 s2
              exact Apart.of_only hrep (fun j hj => by omega) (fun j hj => by have := (Hfb.out.bu.own.lt _ hj).2; omega)
            subst hW7 hob
            have hW : Hid ((W6.alloc (Obj.cells #[.string nm, .slice A5 cb.length c5, .slice A12 mm.length c12] 58)).ownsRow W1.heap.size 58 3 (.slice A2 k n2) k css.flatten) := Lib.hid (by
              have := (hfb6.bu.alloc (Obj.cells #[.string nm, .slice A5 cb.length c5, .slice A12 mm.length c12] 58)).own
              rw [List.length_map, List.length_range] at this
              exact this)
            have HAp := Lib.hid hAp
            have Hfb6 := Lib.hid hfb6
            have HG6 := Lib.hid hG6
            have hl16 : w1.heap.size < W6.heap.size := by omega
            have hlG6 : wr.heap.size < W6.heap.size := by omega
            have hle6 : W1.heap.size ≤ W6.heap.size := by omega
            clear hb5 hbuf5 hst5 hb5' hW6 hG6 hb6 hbuf6 hmn6 hfb6 hAp hz6 hz7 hb7 hbuf7 hmn7
            go_upto_region 24 with fail
            rw [HW6.out]
            clear t0 t1 t2 y0 y1 y2
            obtain ⟨t0, t1, t2, y0, y1, y2⟩ := three_cells HG6.out
            obtain ⟨o0, o1, x0, x1⟩ := cells_of_block Hfb6.out.gb
            go_wp2_with (at_builtin; refine wpList_append_lies _ rfl _ _ 38 rfl W1.heap.size 58 iS _ 3 64 Tryz.underlying38 hiS zS0 zS1 zS2 rfl (by decide) (.slice A2 k n2) k css.flatten rfl hW.out ⟨W6.heap.size, 0, none⟩ 1 1 [.string nm, .slice A5 cb.length c5, .slice A12 mm.length c12] rfl rfl ?_ ?_ (by decide) ?_ ?_ ?_ _ rfl ?_)
            any_goals (first | exact World.news_of_block (cs := #[.string nm, .slice A5 cb.length c5, .slice A12 mm.length c12]) (t := 58) (fr := (0, 0)) (heap_alloc_new _ _) | (simp [Value.oneCell']; done) | (unfold maxLen; omega) | omega | (simp; done) | (simp; omega))
            intro gb cap2 w7 hown7 hgrow7 hat7 hlt7
            obtain ⟨hO7, hfb7⟩ := Hfb6.out.push (by omega) (Obj.cells #[.string nm, .slice A5 cb.length c5, .slice A12 mm.length c12] 58) (j := 1) (n := k + 1) (cap := cap2) (fun _ _ => rfl) HAp.out (by rw [hzW1]; exact hown7) (by rw [List.length_map, List.length_range]) hgrow7 (by simpa using hat7)
            clear o0 o1 x0 x1
            obtain ⟨o0, o1, x0, x1⟩ := cells_of_block hO7
            have Hfb7 := Lib.hid hfb7
            have hst : (List.range (k + 1)).map (secOf raw n main) = (List.range k).map (secOf raw n main) ++ [secOf raw n main k] := by rw [List.range_succ, List.map_append]; rfl
            have Hst' := Lib.hid hst
            have hOl7 : w1.heap.size < w7.heap.size := blk_lt hO7
            clear hfb7 hown7 hgrow7 hat7 hO7 hst
            go_wp2
            go_roundg (min raw.length n - (k + 1))
            case measure => omega
            case rel => exact ⟨k + 1, _, _, by omega, rfl, by go_num, by rw [Hst'.out]; exact Hfb7.out⟩
    · obtain rfl : k = min raw.length n := by omega
      have hQr : wr.heap[w.heap.size]? = some (.cells #[.slice none 0 0, .slice none 0 0] 40 (0, 0)) := (hfb.gr.block _ (by omega) (by omega)).trans HQ1.out
      obtain ⟨p0, p1, y0, y1⟩ := cells_of_block hQr
      obtain ⟨A2, n2, hv2⟩ : ∃ A c, vo = .slice A ((List.range (min raw.length n)).map (secOf raw n main)).length c := own_slice hfb.bu.own
      rw [List.length_map, List.length_range] at hv2
      obtain ⟨o0, o1, x0, x1⟩ := cells_of_block hfb.gb
      have hl0 : w.heap.size < wr.heap.size := by omega
      have hl1 : w1.heap.size < wr.heap.size := by omega
      have hfin : Hid (∀ x y, R (.returned (.agg #[.slice A1 L n1, vo])) ((wr.setCell ⟨w.heap.size, 0, none⟩ x).setCell ⟨w.heap.size, 1, none⟩ y)) := Lib.hid fun x y => by
        have hbr : Below w.heap.size w wr := HbW1.out.trans (hfb.gr.below (fun j hj e => by omega) (by omega))
        refine HR.out _ _ _ bl0 ?_ ?_
        · rw [HL.out] at Hg2 ⊢
          refine Rp.SLF.more (b := W0.heap.size) (B := w1.heap.size) (Rp.SLF.keepB Hg2.out fun j h1 h2 => ?_) (by omega) (by simp [World.setCell]; omega)
          rw [Below.heap_setCell _ _ _ _ (by show j ≠ w.heap.size; omega), Below.heap_setCell _ _ _ _ (by show j ≠ w.heap.size; omega)]
          exact hfb.gr.block j (by omega) (by omega)
        · refine Rp.SLF.more (b := W1.heap.size) (B := wr.heap.size) (Rp.SLF.keepB (hfb.bu.SLF (fun _ h => h) (Nat.le_refl _) (Nat.le_refl _)) fun j h1 h2 => ?_) (by omega) (by simp [World.setCell])
          rw [Below.heap_setCell _ _ _ _ (by show j ≠ w.heap.size; omega), Below.heap_setCell _ _ _ _ (by show j ≠ w.heap.size; omega)]
      have HQr := Lib.hid hQr
      clear hfb Hfb hQr
      subst hv2
      rcases Nat.lt_or_ge (min raw.length n) raw.length with h | h
      · have i2 : ((min raw.length n : Nat) : Int) < (raw.length : Int) := by omega
        have i3 : ¬ ((min raw.length n : Nat) : Int) < (n : Int) := by omega
        generalize min raw.length n = M at *
        go_wp2
        refine bodyPost_ret (v := .agg #[_, _]) (res_Obj (T := 40) (by rfl) (by rfl) (blkp HQr.out)) rfl (hfin.out _ _)
      · have i2 : ¬ ((min raw.length n : Nat) : Int) < (raw.length : Int) := by omega
        generalize min raw.length n = M at *
        go_wp2
        refine bodyPost_ret (v := .agg #[_, _]) (res_Obj (T := 40) (by rfl) (by rfl) (blkp HQr.out)) rfl (hfin.out _ _)
end Go.Proofs.YtcakodemngchpaaGreatDoor
