/- BundleOpen, as the document says it: objects out of a bundle's bytes, or what is wrong. The law that compares bundle.Open with the document's. -/
import Derived.Test.YtfhnmbnniklmiaaDoorBase
import Derived.Test.YtfhnmbnniklmiaaDoorRows
import Derived.IntWalk
import Derived.Deep.LoopGhost
import Derived.Deep.CutBlock
import Derived.Deep.DeepCutAuto
import Derived.Deep.RegionHeld3
import Derived.Deep.RegionLaw
import Derived.Outline
import Derived.Test.YtfhnmbnniklmiaaDoorBunB
import Derived.Test.YtfhnmbnniklmiaaDoorBunC
import Derived.Test.YtfhnmbnniklmiaaDoorTakeA
import Derived.Test.YtfhnmbnniklmiaaDoorSameA
/- BundleOpen, as the document says it: objects out of a bundle's bytes, or what is wrong. -/
namespace Go.Proofs.YtfhnmbnniklmiaaDoor
open Go.RowKit
set_option linter.unusedSimpArgs false
set_option linter.unusedVariables false

theorem open_rest_R {b : List UInt8} (h5 : 5 ≤ b.length) : bundleR b = restR b := by unfold bundleR; rw [if_pos h5]
theorem restR_of {b r1 r2 r3 : List UInt8} {m k : Nat} (h1 : smallL (midB b) = some (m, r1)) (h2 : smallL r1 = some (k, r2)) (h3 : (timesL entR k r2).map Prod.snd = some r3) : restR b = (timesL objP m r3).map (·.1) := by
  unfold restR
  rw [Option.map_eq_some_iff] at h3
  obtain ⟨⟨es, r⟩, h3, rfl⟩ := h3
  rw [h1]
  simp only [Option.bind_some]
  rw [h2]
  simp only [Option.bind_some]
  rw [h3]
  rfl
theorem restR_none1 {b : List UInt8} (h1 : smallL (midB b) = none) : restR b = none := by unfold restR; rw [h1]; rfl
theorem restR_none2 {b r1 : List UInt8} {m : Nat} (h1 : smallL (midB b) = some (m, r1)) (h2 : smallL r1 = none) : restR b = none := by
  unfold restR; rw [h1]; simp only [Option.bind_some]; rw [h2]; rfl
theorem restR_none3 {b r1 r2 : List UInt8} {m k : Nat} (h1 : smallL (midB b) = some (m, r1)) (h2 : smallL r1 = some (k, r2)) (h3 : timesL entR k r2 = none) : restR b = none := by
  unfold restR; rw [h1]; simp only [Option.bind_some]; rw [h2]; simp only [Option.bind_some]; rw [h3]; rfl
theorem tk_own {w w' : World} {p base k : Nat} {bs : List UInt8} {bad : Bool} {x : Option Nat} (h : Tk w p bs k bad) (hg : w.grownBy w' x) (hx : ∀ j, x = some j → base ≤ j) (hp : p < base) : Tk w' p bs k bad := by
  have hl := h.lt
  obtain ⟨v, T, h1, h2, h3⟩ := h
  exact ⟨v, T, (hg.block p hl (fun e => by have := hx p e.symm; omega)).trans h1, h2.keep fun a ha => World.cell?_of_block (hg.block _ (by omega) (fun e => by have := hx _ e.symm; omega)), h3⟩
theorem tk_bad {w : World} {p k : Nat} {bs : List UInt8} {bad : Bool} (h : Tk w p bs k bad) : w.cell? ⟨p, 2, none⟩ = some (.bool bad) := by
  obtain ⟨v, T, h1, _, _⟩ := h
  exact (cells3_of_block h1).2.2.1

set_option maxRecDepth 100000 in
set_option maxHeartbeats 16000000 in
theorem BundleOpen_calls (v : Value) (bs : List UInt8) (w : World) (h : rpByte.SL w w.heap.size bs v) (R : Ending → World → Prop)
    (hR : ∀ w' v', Below w.heap.size w w' → rpObject.SLF w' w.heap.size w'.heap.size (openO bs) v' → R (.returned (.tuple #[v', (.agg #[.int .i64 (openF bs).1, .int .i64 (openF bs).2])])) w') :
    Calls Tryd.prog 23 #[v] w R := by
  obtain ⟨iO, hiO, zO0, zO1, zO2⟩ := info_parts info_Object
  obtain ⟨A, c, rfl, hm, hcap, h⟩ := h.cases_
  have HR := Lib.hid hR
  have H := Lib.hid h
  obtain ⟨W0, hW0⟩ : ∃ W0, W0 = w.alloc (Obj.cells #[.int .i64 0, .int .i64 0] 25) := ⟨_, rfl⟩
  have hb0 : Below w.heap.size w W0 := by subst hW0; exact (by repeat (first | exact Below.refl _ _ | assumption | refine below_drewN ?_ _ | refine Below.drew ?_ | refine Below.setCell ?_ (by first | omega | (simp; done) | (simp; omega)) _ | refine Below.alloc ?_ (by first | omega | (simp; done) | (simp; omega)) _ | refine below_step (by assumption) ?_ (by first | omega | (simp; done) | (simp; omega))))
  have hz0 : W0.heap.size = w.heap.size + 1 := by subst hW0; simp
  have hQ : W0.heap[w.heap.size]? = some (.cells #[.int .i64 0, .int .i64 0] 25 (0, 0)) := by subst hW0; exact heap_alloc_new _ _
  have HQ := Lib.hid hQ
  have HW := Lib.hid hW0.symm
  have Hb0 := Lib.hid hb0
  have Hz0 := Lib.hid hz0
  have hl0 : w.heap.size < W0.heap.size := by omega
  obtain ⟨d0, d1, y0, y1⟩ := cells_of_block hQ
  clear hR h hW0 hb0 hQ hz0
  by_cases hlong : 90000 < bs.length
  · have hli : (90000 : Int) < (bs.length : Int) := by omega
    obtain ⟨e1, e2, _⟩ := openF_long hlong
    have hret := HR.out
    rw [e1, e2] at hret
    have Hret := Lib.hid hret
    clear hret e1 e2 hlong
    go_enter Tryd.func23, Tryd.ntmps23
    go_upto_region 1 with fail
    rw [HW.out]
    go_wp2
    refine bodyPost_ret (v := .tuple #[.slice none 0 0, .agg #[.int .i64 2, .int .i64 0]]) (res_slF (by rfl) (by rfl) (by rfl) (by repeat (first | with_reducible exact HQ.out | with_reducible refine blk_drew ?_ | with_reducible refine blk_drewN ?_ _ | with_reducible refine blk_alloc ?_ _ | with_reducible apply blk_set1 | with_reducible apply blk_set0 | with_reducible refine blk_other ?_ (by first | (simp; done) | omega | (simp; omega)) _))) rfl ?_
    have hb := Hb0.out
    refine Hret.out _ _ ?_ (Rp.SLF.nil _ _ _ _)
    exact (by repeat (first | exact Below.refl _ _ | assumption | refine below_drewN ?_ _ | refine Below.drew ?_ | refine Below.setCell ?_ (by first | omega | (simp; done) | (simp; omega)) _ | refine Below.alloc ?_ (by first | omega | (simp; done) | (simp; omega)) _ | refine below_step (by assumption) ?_ (by first | omega | (simp; done) | (simp; omega))))
  have hli : ¬ (90000 : Int) < (bs.length : Int) := by omega
  have HF1 : Hid (openL bs = none → ∀ W, W.heap[w.heap.size]? = some (.cells #[.int .i64 0, .int .i64 0] 25 (0, 0)) → Below w.heap.size w W → ∀ W', Below w.heap.size w W' → R (.returned (.tuple #[.slice none 0 0, .agg #[.int .i64 1, .int .i64 0]])) W') := Lib.hid fun hno W _ _ W' hW' => by
    obtain ⟨e1, e2⟩ := openF_none hlong hno
    have hret := HR.out W' (.slice none 0 0) hW'
    rw [e1, e2] at hret
    exact hret (Rp.SLF.nil _ _ _ _)
  by_cases h5 : bs.length < 5
  · have i0 : (bs.length : Int) < 5 := by omega
    have hno := open_short h5
    have Hret := Lib.hid (HF1.out hno W0 HQ.out Hb0.out)
    clear hno h5
    go_enter Tryd.func23, Tryd.ntmps23
    go_upto_region 1 with fail
    rw [HW.out]
    go_wp2
    refine bodyPost_ret (v := .tuple #[.slice none 0 0, .agg #[.int .i64 1, .int .i64 0]]) (res_slF (by rfl) (by rfl) (by rfl) (by repeat (first | with_reducible exact HQ.out | with_reducible refine blk_drew ?_ | with_reducible refine blk_drewN ?_ _ | with_reducible refine blk_alloc ?_ _ | with_reducible apply blk_set1 | with_reducible apply blk_set0 | with_reducible refine blk_other ?_ (by first | (simp; done) | omega | (simp; omega)) _))) rfl ?_
    have hb := Hb0.out
    refine Hret.out _ ?_
    exact (by repeat (first | exact Below.refl _ _ | assumption | refine below_drewN ?_ _ | refine Below.drew ?_ | refine Below.setCell ?_ (by first | omega | (simp; done) | (simp; omega)) _ | refine Below.alloc ?_ (by first | omega | (simp; done) | (simp; omega)) _ | refine below_step (by assumption) ?_ (by first | omega | (simp; done) | (simp; omega))))
  have i0 : ¬ (bs.length : Int) < 5 := by omega
  obtain ⟨b, off, rfl, hb, hcell0⟩ := H.out.byte_at (k := 0) (by omega)
  clear hcell0
  have hrest := open_rest_R (b := bs) (by omega)
  have HP : Hid (∀ l, openL bs = some l → restR bs = some l) := Lib.hid fun l h => by rw [← hrest]; exact openL_R h
  obtain ⟨L, hL⟩ : ∃ L, L = bs.take (bs.length - 2) := ⟨_, rfl⟩
  have hLl : L.length = bs.length - 2 := by rw [hL, List.length_take]; omega
  have hmid : midB bs = L.drop 3 := by rw [hL]; rfl
  obtain ⟨W1, hW1⟩ : ∃ W1, W1 = W0.alloc (Obj.cells #[.slice (some ⟨b, off, none⟩) (bs.length - 2) c, .int .i64 3, .bool false] 98) := ⟨_, rfl⟩
  have hb1 : Below W0.heap.size W0 W1 := by subst hW1; exact (by repeat (first | exact Below.refl _ _ | assumption | refine below_drewN ?_ _ | refine Below.drew ?_ | refine Below.setCell ?_ (by first | omega | (simp; done) | (simp; omega)) _ | refine Below.alloc ?_ (by first | omega | (simp; done) | (simp; omega)) _ | refine below_step (by assumption) ?_ (by first | omega | (simp; done) | (simp; omega))))
  have hz1 : W1.heap.size = W0.heap.size + 1 := by subst hW1; simp
  have htk1 : Tk W1 W0.heap.size L 3 false := by
    refine ⟨.slice (some ⟨b, off, none⟩) (bs.length - 2) c, 98, by subst hW1; exact heap_alloc_new _ _, ?_, by omega⟩
    have h1 := H.out.up (Hb0.out.trans (hb1.mono (Nat.le_of_lt hl0))) (Nat.le_of_lt hl0)
    rw [hL]
    exact h1.take_ (k := bs.length - 2) (by omega)
  have HK : Hid (∀ W, Grew (fun b => b = W0.heap.size) W1 W → W.heap[w.heap.size]? = some (.cells #[.int .i64 0, .int .i64 0] 25 (0, 0)) ∧ Below w.heap.size w W) := Lib.hid fun W h => by
    have hb01 := Hb0.out.trans (hb1.mono (Nat.le_of_lt hl0))
    exact ⟨(h.block _ (by omega) (by omega)).trans ((hb1.block _ hl0).trans HQ.out), hb01.trans (h.below (fun k hk e => by omega) hb01.size)⟩
  have HW1 := Lib.hid hW1.symm
  have Hz1 := Lib.hid hz1
  have Ht1 := Lib.hid htk1
  have hLb : L.length ≤ 90000 := by omega
  have i2 : (0 : Int) ≤ (bs.length : Int) - 2 := by omega
  have i4 : (bs.length : Int) - 2 ≤ (c : Int) := by omega
  have i5 : IntKind.i64.wrap ((bs.length : Int) - 2) = (bs.length : Int) - 2 := IntWalk.i64_in _ (by omega)
  have i6 : ((bs.length : Int) - 2).toNat = bs.length - 2 := by omega
  have hzz1 : W0.heap.size < W1.heap.size := by omega
  have Hmid := Lib.hid hmid
  have hlen : bs.length ≤ 90000 := by omega
  clear h5 hrest hW1 hmid hb1 hz1 htk1 hL hLl
  go_enter Tryd.func23, Tryd.ntmps23
  go_upto_region 1 with fail
  rw [HW.out]
  go_upto_region 6 with fail
  rw [HW1.out]
  clear d0 d1 y0 y1
  go_wp2_with fail
  refine tSmall_any W0.heap.size L 3 false _ Ht1.out (by omega) _ (fun m k1 q1 hm1 a0 a1 w2 hg2 ht2 => ?_)
  have Ha0 : Hid (q1 = false → smallL (midB bs) = some (m, L.drop k1)) := Lib.hid fun h => by rw [Hmid.out]; exact (a0 h).2
  have Ha1 : Hid (q1 = true → smallL (midB bs) = none) := Lib.hid fun h => by rw [Hmid.out]; exact (a1 h).resolve_left (by simp)
  have Hg2 := Lib.hid hg2
  have Ht2 := Lib.hid ht2
  have m0 : (0 : Int) ≤ (m : Int) := Int.natCast_nonneg _
  have m1 : (m : Int) ≤ 90000 := by omega
  clear a0 a1 hg2 ht2
  go_wp2_with fail
  refine tSmall_any W0.heap.size L k1 q1 _ Ht2.out (by omega) _ (fun k k2 q2 hk1 b0 b1 w3 hg3 ht3 => ?_)
  have Hbb0 := Lib.hid b0
  have Hbb1 := Lib.hid b1
  have Hg3' := Lib.hid (grown_trans Hg2.out hg3)
  have Ht3 := Lib.hid ht3
  clear b0 b1 hg3 ht3
  go_upto_block 0 with fail
  go_cut [] (fun wx => ∃ (k3 : Nat) (q3 : Bool), Tk wx W0.heap.size L k3 q3 ∧ W1.grownBy wx (some W0.heap.size) ∧ (q3 = false → restR bs = (timesL objP m (L.drop k3)).map (·.1)) ∧ (q3 = true → restR bs = none))
  case first =>
    go_wp2_with fail
    go_loopg [6] k (fun gh s6 wr => ∃ (n kr : Nat) (q : Bool), gh = n ∧ s6 = .int .i64 (n : Int) ∧ n ≤ k ∧ Tk wr W0.heap.size L kr q ∧ W1.grownBy wr (some W0.heap.size) ∧ (q = false → q2 = false ∧ (timesL entR k (L.drop k2)).map Prod.snd = (timesL entR n (L.drop kr)).map Prod.snd) ∧ (q = true → q2 = true ∨ timesL entR k (L.drop k2) = none))
    case atStart => exact ⟨k, k2, q2, rfl, rfl, Nat.le_refl _, Ht3.out, Hg3'.out, fun h => ⟨h, rfl⟩, fun h => .inl h⟩
    case round =>
      obtain ⟨n, kr, q, hgk, rfl, hn, htk, hg, h0, h1⟩ := hrel
      have Htk := Lib.hid htk
      have Hg := Lib.hid hg
      have H0 := Lib.hid h0
      have H1 := Lib.hid h1
      have n0 : (0 : Int) ≤ (n : Int) := Int.natCast_nonneg _
      have n1 : (n : Int) ≤ 90000 := by omega
      have hpl := htk.lt
      have c2 := tk_bad htk
      have hout : (n = 0 ∨ q = true) → ∃ (k3 : Nat) (q3 : Bool), Tk wr W0.heap.size L k3 q3 ∧ W1.grownBy wr (some W0.heap.size) ∧ (q3 = false → restR bs = (timesL objP m (L.drop k3)).map (·.1)) ∧ (q3 = true → restR bs = none) := fun hor => by
        refine ⟨kr, q, Htk.out, Hg.out, fun hq => ?_, fun hq => ?_⟩
        · obtain ⟨e1, e2⟩ := H0.out hq
          obtain ⟨e3, e4⟩ := Hbb0.out e1
          obtain rfl : n = 0 := hor.resolve_right (by rw [hq]; simp)
          exact restR_of (Ha0.out e3) e4 e2
        · rcases H1.out hq with e1 | e1
          · rcases Hbb1.out e1 with e2 | e2
            · exact restR_none1 (Ha1.out e2)
            · cases hq1 : q1 with
              | true => exact restR_none1 (Ha1.out hq1)
              | false => exact restR_none2 (Ha0.out hq1) e2
          · cases hq2 : q2 with
            | true =>
              rcases Hbb1.out hq2 with e2 | e2
              · exact restR_none1 (Ha1.out e2)
              · cases hq1 : q1 with
                | true => exact restR_none1 (Ha1.out hq1)
                | false => exact restR_none2 (Ha0.out hq1) e2
            | false =>
              obtain ⟨e3, e4⟩ := Hbb0.out hq2
              exact restR_none3 (Ha0.out e3) e4 e1
      have Hout := Lib.hid hout
      clear htk hg h0 h1 hout
      by_cases hnz : n = 0
      · subst hnz
        have Ho := Lib.hid (Hout.out (.inl rfl))
        go_wp2
        go_meet
        exact Ho.out
      · have hpos : (0 : Int) < (n : Int) := by omega
        have hposN : 0 < n := by omega
        have hdN : decide (0 < n) = true := decide_eq_true hposN
        cases q with
        | true =>
          have Ho := Lib.hid (Hout.out (.inr rfl))
          clear hnz
          go_wp2
          go_meet
          exact Ho.out
        | false =>
          obtain ⟨e0, e1⟩ := H0.out rfl
          have He0 := Lib.hid e0
          have He1 := Lib.hid e1
          have wn : IntKind.i64.wrap ((n : Int) - 1) = (n : Int) - 1 := IntWalk.i64_in _ (by omega)
          clear e0 e1 Hout H0 H1
          go_wp2_with fail
          refine tText_few W0.heap.size L kr false _ Htk.out hLb _ (fun s k5 q5 hsz a0 a1 w5 hg5 ht5 => ?_)
          have Ht5 := Lib.hid ht5
          have Hg5 := Lib.hid (grown_trans Hg.out hg5)
          have A0 : Hid (q5 = false → textL (L.drop kr) = some (s, L.drop k5)) := Lib.hid fun hq => (a0 hq).2
          have A1 : Hid (q5 = true → textL (L.drop kr) = none) := Lib.hid fun hq => (a1 hq).resolve_left (by simp)
          clear hg5 ht5 a0 a1 c2
          go_wp2_with fail
          refine tSmall_any W0.heap.size L k5 q5 _ Ht5.out (by omega) _ (fun x k6 q6 hx b0 b1 w6 hg6 ht6 => ?_)
          have hE := two_read (A := textL) (B := smallL) (C := entR) (f := Prod.mk) (bad := false) (fun _ => rfl) (fun hq => ⟨rfl, A0.out hq⟩) (fun hq => .inr (A1.out hq)) b0 b1
          have Ht6 := Lib.hid ht6
          have Hg6 := Lib.hid (grown_trans Hg5.out hg6)
          have HE := Lib.hid hE
          clear hg6 ht6 b0 b1 hE
          obtain ⟨n', rfl⟩ : ∃ n', n = n' + 1 := ⟨n - 1, by omega⟩
          go_wp2
          go_roundg n'
          case measure => omega
          case rel =>
            refine ⟨n', k6, q6, rfl, by go_num, by omega, Ht6.out, Hg6.out, fun hq => ?_, fun hq => ?_⟩
            · exact ⟨He0.out, He1.out.trans (times_snd (HE.out.1 hq).2)⟩
            · right
              have e2 := (HE.out.2 hq).resolve_left (by simp)
              have e3 := He1.out
              rw [timesL_none e2] at e3
              simpa using e3
  case rest =>
    obtain ⟨k3, q3, htk3, hg3, h0, h1⟩ := hcut
    rename World => W3
    have Ht4 := Lib.hid htk3
    have Hg3 := Lib.hid hg3
    have H30 := Lib.hid h0
    have H31 := Lib.hid h1
    have hz3 := hg3.size
    have Hgw3 := Lib.hid ((Grew.of_grown hg3).more (Y := fun b => b = W0.heap.size) (fun j _ e => (Option.some.inj e).symm))
    clear htk3 hg3 h0 h1 Ha0 Ha1 Hbb0 Hbb1 Hg2 Ht2 Ht3 Hg3'
    go_upto_block 2 with fail
    go_cut [7] (fun s7 wx => ∃ (xs : List Object) (css : List (List Value)) (kr : Nat) (q : Bool), Built rpObject W3.heap.size 47 (fun b => b < W3.heap.size) wx s7 xs css ∧ Tk wx W0.heap.size L kr q ∧ Grew (fun b => b = W0.heap.size) W3 wx ∧ (∀ o ∈ xs, Wide o) ∧ (q = false → restR bs = some xs) ∧ (q = true → restR bs = none))
    case first =>
      have hp3 : W0.heap.size < W3.heap.size := Ht4.out.lt
      go_wp2_with fail
      go_loopg [5, 7, 8, 9] m (fun gh s5 s7 s8 s9 wr => ∃ (n : Nat) (xs : List Object) (css : List (List Value)) (kr : Nat) (q : Bool), gh = n ∧ s5 = .int .i64 (n : Int) ∧ xs.length + n ≤ 90000 ∧ Built rpObject W3.heap.size 47 (fun b => b < W3.heap.size) wr s7 xs css ∧ Tk wr W0.heap.size L kr q ∧ Grew (fun b => b = W0.heap.size) W3 wr ∧ (∀ o ∈ xs, Wide o) ∧ (q = false → restR bs = ((timesL objP n (L.drop kr)).map (fun y => (xs ++ y.1, y.2))).map (·.1)) ∧ (q = true → restR bs = none))
      case atStart =>
        refine ⟨m, [], [], k3, q3, rfl, rfl, by simpa using hm1, Built.nil _ _ _ _ _ (fun _ h => h), Ht4.out, Grew.refl _ _, (fun o h => by cases h), (fun h => ?_), H31.out⟩
        rw [H30.out h]
        cases timesL objP m (L.drop k3) <;> rfl
      case round =>
        obtain ⟨n, xs, css, kr, q, hgk, rfl, hn, hbu, htk, hgr, hwd, h0, h1⟩ := hrel
        have Htk := Lib.hid htk
        have Hbu := Lib.hid hbu
        have Hgr := Lib.hid hgr
        have Hwd := Lib.hid hwd
        have H0 := Lib.hid h0
        have H1 := Lib.hid h1
        have n0 : (0 : Int) ≤ (n : Int) := Int.natCast_nonneg _
        have n1 : (n : Int) ≤ 90000 := by omega
        have hpl := htk.lt
        have hz := hgr.size
        have c2 := tk_bad htk
        clear htk hbu hgr hwd h0 h1
        by_cases hnz : n = 0
        · subst hnz
          have Ho : Hid (q = false → restR bs = some xs) := Lib.hid fun hq => by
            have := H0.out hq
            simpa [timesL] using this
          clear H0
          go_wp2
          go_meet
          exact ⟨xs, css, kr, q, Hbu.out, Htk.out, Hgr.out, Hwd.out, Ho.out, H1.out⟩
        · have hpos : (0 : Int) < (n : Int) := by omega
          have hposN : 0 < n := by omega
          have hdN : decide (0 < n) = true := decide_eq_true hposN
          cases q with
          | true =>
            have Ho : Hid (restR bs = none) := Lib.hid (H1.out rfl)
            clear hnz H0 H1
            go_wp2
            go_meet
            exact ⟨xs, css, kr, true, Hbu.out, Htk.out, Hgr.out, Hwd.out, (fun h => by cases h), fun _ => Ho.out⟩
          | false =>
            have H0' := Lib.hid (H0.out rfl)
            have wn : IntKind.i64.wrap ((n : Int) - 1) = (n : Int) - 1 := IntWalk.i64_in _ (by omega)
            obtain ⟨n', rfl⟩ : ∃ n', n = n' + 1 := ⟨n - 1, by omega⟩
            clear H0 H1 hnz
            go_wp2_with fail
            refine tText_few W0.heap.size L kr false _ Htk.out hLb _ (fun s k5 q5 hsz a0 a1 w5 hg5 ht5 => ?_)
            have Ht5 := Lib.hid ht5
            have A0 : Hid (q5 = false → textL (L.drop kr) = some (s, L.drop k5)) := Lib.hid fun hq => (a0 hq).2
            have A1 : Hid (q5 = true → textL (L.drop kr) = none) := Lib.hid fun hq => (a1 hq).resolve_left (by simp)
            obtain ⟨W5, cap5, hcv, hbc, hzc, hcode⟩ := conv_text w5 s (by unfold maxLen; omega)
            have hgr5 : Grew (fun b => b = W0.heap.size) W3 W5 := (Hgr.out.trans (Grew.of_grown hg5) (fun j _ e => (Option.some.inj e).symm)).on hbc
            have hbu5 := (Hbu.out.keep hg5.size (fun j hj hx => hg5.block j hj (fun e => hx (by have := Option.some.inj e; omega)))).below hbc (Nat.le_refl _)
            have hsd : s.data.toList.length = s.size := by rw [Array.length_toList]; rfl
            rw [← hsd] at hcode
            have Hs5 := Lib.hid hcode.SL
            have Hgr5 := Lib.hid hgr5
            have Hbu5 := Lib.hid hbu5
            have Ht6 := Lib.hid (ht5.other hbc)
            have hz5 := hgr5.size
            have hsl : s.data.toList.length ≤ 90000 := by omega
            have Hsd := Lib.hid hsd
            clear hg5 ht5 a0 a1 c2 hgr5 hbu5 hbc hcode hsd hzc Ht5
            go_wp2_with fail
            first | rw [← Hsd.out] | skip
            refine ObjectOf_calls _ s.data.toList _ Hs5.out hsl _ (fun o ho w6 u1 u2 hb6 hsg hss => ?_) (fun hno w6 B1 m1 k1 B2 m2 k2 hb6 => ?_)
            · obtain ⟨D1, d1, rfl, _, _, hsg⟩ := hsg.cases_
              obtain ⟨D2, d2, rfl, _, _, hss⟩ := hss.cases_
              have hz6 := hb6.size
              obtain ⟨W7, hW7⟩ : ∃ W7, W7 = w6.alloc (Obj.cells #[.slice D1 o.globals.length d1, .slice D2 o.sections.length d2] 47) := ⟨_, rfl⟩
              have hb7 : Below w6.heap.size w6 W7 := by subst hW7; exact (by repeat (first | exact Below.refl _ _ | assumption | refine below_drewN ?_ _ | refine Below.drew ?_ | refine Below.setCell ?_ (by first | omega | (simp; done) | (simp; omega)) _ | refine Below.alloc ?_ (by first | omega | (simp; done) | (simp; omega)) _ | refine below_step (by assumption) ?_ (by first | omega | (simp; done) | (simp; omega))))
              have hV7 : W7.heap[w6.heap.size]? = some (.cells #[.slice D1 o.globals.length d1, .slice D2 o.sections.length d2] 47 (0, 0)) := by subst hW7; exact heap_alloc_new _ _
              have hz7 : W7.heap.size = w6.heap.size + 1 := by subst hW7; simp
              have hb57 : Below W5.heap.size W5 W7 := hb6.trans (hb7.mono hz6)
              have hW8 := (Below.refl W7.heap.size W7).alloc (Nat.le_refl _) (Obj.cells #[.slice D1 o.globals.length d1, .slice D2 o.sections.length d2] 47)
              have Hap : Hid (Apart rpObject (fun b => b < W3.heap.size) (W7.alloc (Obj.cells #[.slice D1 o.globals.length d1, .slice D2 o.sections.length d2] 47)) u7 o [.slice D1 o.globals.length d1, .slice D2 o.sections.length d2]) := Lib.hid (by
                have hb68 := hb7.trans (hW8.mono (by omega))
                refine Apart.of_only (base := W5.heap.size) (object_mk ?_ ?_) (fun k hk => by omega) (fun g hg => (Hbu5.out.own.lt g hg).2)
                · exact Rp.SL.more (hsg.below hb68 (Nat.le_refl _)) (by simp; omega)
                · exact Rp.SL.more (hss.below hb68 (Nat.le_refl _)) (by simp; omega))
              have Hbu8 := Lib.hid ((Hbu5.out.below hb57 (Nat.le_refl _)).alloc (Obj.cells #[.slice D1 o.globals.length d1, .slice D2 o.sections.length d2] 47))
              have Ht8 := Lib.hid ((Ht6.out.other hb57).other hW8)
              have Hgr8 := Lib.hid ((Hgr5.out.on hb57).on hW8)
              have HW7 := Lib.hid hW7.symm
              have hwo : Wide o := (loadedL_back ho).2
              have Hwo := Lib.hid hwo
              have Ho := Lib.hid ho
              obtain ⟨t0, t1⟩ := cells_blk hV7
              have hlV7 := blk_lt hV7
              have hwr3 : W3.heap.size ≤ W7.heap.size := by omega
              clear hb6 hsg hss hW7 hb7 hV7 hb57 hW8 hwo ho hz7
              go_upto_region 16 with fail
              rw [HW7.out]
              obtain ⟨A7, n7, hs7⟩ := own_slice Hbu8.out.own
              subst hs7
              go_wp2_with (at_builtin; refine wpList_append_lies _ rfl _ _ 22 rfl W3.heap.size 47 iO _ 2 48 Tryd.underlying22 hiO zO0 zO1 zO2 rfl (by decide) (.slice A7 xs.length n7) xs.length css.flatten rfl Hbu8.out.own ⟨W7.heap.size, 0, none⟩ 1 1 [.slice D1 o.globals.length d1, .slice D2 o.sections.length d2] rfl rfl ?_ ?_ (by decide) ?_ ?_ ?_ _ rfl ?_)
              any_goals (first | exact World.news_of_block (cs := #[.slice D1 o.globals.length d1, .slice D2 o.sections.length d2]) (t := 47) (fr := (0, 0)) (heap_alloc_new _ _) | (simp [Value.oneCell']; done) | (unfold maxLen; omega) | omega | (simp; done) | (simp; omega))
              intro gb cap w9 hown9 hgrow9 hat9 hlt9
              have hown : ∀ j, Value.ownBlock (.slice A7 xs.length n7) = some j → W3.heap.size ≤ j := fun j hj => (Hbu8.out.own.lt j hj).1
              have HB9 := Lib.hid (Hbu8.out.push hown9 rfl hgrow9 (by simpa using hat9) Hap.out)
              have Hgr9 := Lib.hid (Hgr8.out.trans (Grew.of_grown hgrow9) (fun j hj e => by have := hown j e; omega))
              have Ht9 := Lib.hid (tk_own Ht8.out hgrow9 hown hp3)
              have Hwd9 : Hid (∀ y ∈ xs ++ [o], Wide y) := Lib.hid fun y hy => by
                rcases List.mem_append.1 hy with h | h
                · exact Hwd.out y h
                · obtain rfl : y = o := by simpa using h
                  exact Hwo.out
              have Hs9 : Hid (q5 = false → restR bs = ((timesL objP n' (L.drop k5)).map (fun y => ((xs ++ [o]) ++ y.1, y.2))).map (·.1)) := Lib.hid fun hq => by
                rw [← timesL_step (objP_some (A0.out hq) Ho.out)]
                exact H0'.out
              have Hn9 : Hid (q5 = true → restR bs = none) := Lib.hid fun hq => by
                have := H0'.out
                rw [timesL_none (objP_none1 (A1.out hq))] at this
                simpa using this
              clear hown9 hgrow9 hat9 hown
              go_wp2
              go_roundg n'
              case measure => omega
              case rel => exact ⟨n', xs ++ [o], _, k5, q5, rfl, by go_num, by rw [List.length_append]; simp; omega, HB9.out, Ht9.out, Hgr9.out, Hwd9.out, Hs9.out, Hn9.out⟩
            · have hrn : restR bs = none := by
                have := H0'.out
                rw [timesL_none (show objP (L.drop kr) = none from by
                  cases hq : q5 with
                  | true => exact objP_none1 (A1.out hq)
                  | false => exact objP_none (A0.out hq) hno)] at this
                simpa using this
              obtain ⟨W7, hW7⟩ : ∃ W7, W7 = w6.alloc (Obj.cells #[.slice B1 m1 k1, .slice B2 m2 k2] 47) := ⟨_, rfl⟩
              have hb7 : Below w6.heap.size w6 W7 := by subst hW7; exact (by repeat (first | exact Below.refl _ _ | assumption | refine below_drewN ?_ _ | refine Below.drew ?_ | refine Below.setCell ?_ (by first | omega | (simp; done) | (simp; omega)) _ | refine Below.alloc ?_ (by first | omega | (simp; done) | (simp; omega)) _ | refine below_step (by assumption) ?_ (by first | omega | (simp; done) | (simp; omega))))
              have hgr7 := (Hgr5.out.on hb6).on hb7
              obtain ⟨kf, kb⟩ := HK.out _ (Hgw3.out.trans hgr7 (fun j _ e => e))
              have Hret := Lib.hid (HF1.out (open_none HP.out hrn) W7 kf kb)
              have HKF := Lib.hid kf
              have HKb := Lib.hid kb
              obtain ⟨d0, d1, y0, y1⟩ := cells_of_block kf
              have hlf := blk_lt kf
              have HW7 := Lib.hid hW7.symm
              clear hb6 hrn hW7 hb7 hgr7 kf kb
              go_upto_region 16 with fail
              rw [HW7.out]
              go_wp2
              refine bodyPost_ret (v := .tuple #[.slice none 0 0, .agg #[.int .i64 1, .int .i64 0]]) (res_slF (by rfl) (by rfl) (by rfl) (by repeat (first | with_reducible exact HKF.out | with_reducible refine blk_drew ?_ | with_reducible refine blk_drewN ?_ _ | with_reducible refine blk_alloc ?_ _ | with_reducible apply blk_set1 | with_reducible apply blk_set0 | with_reducible refine blk_other ?_ (by first | (simp; done) | omega | (simp; omega)) _))) rfl ?_
              have hb := HKb.out
              refine Hret.out _ ?_
              exact (by repeat (first | exact Below.refl _ _ | assumption | refine below_drewN ?_ _ | refine Below.drew ?_ | refine Below.setCell ?_ (by first | omega | (simp; done) | (simp; omega)) _ | refine Below.alloc ?_ (by first | omega | (simp; done) | (simp; omega)) _ | refine below_step (by assumption) ?_ (by first | omega | (simp; done) | (simp; omega))))
    case rest =>
      obtain ⟨xs, css, kr, q, hbu, htk, hgr, hwd, h0, h1⟩ := hcut
      rename World => W4
      obtain ⟨kf, kb⟩ := HK.out _ (Hgw3.out.trans hgr (fun j _ e => e))
      have hpl := htk.lt
      have hz13 : W1.heap.size ≤ W3.heap.size := hz3
      have hzw3 : W0.heap.size ≤ W3.heap.size := by omega
      have hSL := (hbu.SLF (b := W3.heap.size) (fun k hk => hk) (Nat.le_refl _) (Nat.le_refl W4.heap.size)).more (b' := W0.heap.size) hzw3 (Nat.le_refl _)
      obtain ⟨A7, n7, rfl, _, _, hSL⟩ := hSL.cases_
      have HSLF := Lib.hid hSL
      have HSL := Lib.hid hSL.SL
      have Htk := Lib.hid htk
      have HKB : Hid (∀ W, Below W4.heap.size W4 W → W.heap[w.heap.size]? = some (.cells #[.int .i64 0, .int .i64 0] 25 (0, 0)) ∧ w.heap.size < W.heap.size ∧ Below w.heap.size w W) := Lib.hid fun W hW =>
        ⟨(hW.block _ (blk_lt kf)).trans kf, Nat.lt_of_lt_of_le (blk_lt kf) hW.size, kb.trans (hW.mono kb.size)⟩
      have hcvb : Hid (∀ W, Below W4.heap.size W4 W → (convert 39 9 (.slice (some ⟨b, off, none⟩) bs.length c)).run Tryd.prog W = .ok (.string (strL bs)) W) := Lib.hid fun W hW => by
        have hb := kb.trans (hW.mono kb.size)
        exact conv_bytes (P := Tryd.prog) Tryd.underlying39 Tryd.underlying5 Tryd.underlying9 (H.out.up hb hb.size)
      have c2 := tk_bad htk
      have Hwd := Lib.hid hwd
      have HF4 := Lib.hid kf
      have hq4 := blk_lt kf
      have Hno : Hid (openL bs = none → ∀ W', Below w.heap.size w W' → R (.returned (.tuple #[.slice none 0 0, .agg #[.int .i64 1, .int .i64 0]])) W') := Lib.hid fun hno => HF1.out hno W4 kf kb
      have Hkb := Lib.hid kb
      obtain ⟨d0, d1, y0, y1⟩ := cells_of_block kf
      clear hbu htk hgr hwd hSL kf kb
      cases q with
      | true =>
        have Hfin := Lib.hid (Hno.out (open_none HP.out (h1 rfl)))
        have hcv := hcvb.out W4 (Below.refl _ _)
        clear h0 h1
        go_upto_region 19 with fail
        go_quiet (fail)
        go_wp2
        refine bodyPost_ret (v := .tuple #[.slice none 0 0, .agg #[.int .i64 1, .int .i64 0]]) (res_slF (by rfl) (by rfl) (by rfl) (by repeat (first | with_reducible exact HF4.out | with_reducible refine blk_drew ?_ | with_reducible refine blk_drewN ?_ _ | with_reducible refine blk_alloc ?_ _ | with_reducible apply blk_set1 | with_reducible apply blk_set0 | with_reducible refine blk_other ?_ (by first | (simp; done) | omega | (simp; omega)) _))) rfl ?_
        have hb := Hkb.out
        refine Hfin.out _ ?_
        exact (by repeat (first | exact Below.refl _ _ | assumption | refine below_drewN ?_ _ | refine Below.drew ?_ | refine Below.setCell ?_ (by first | omega | (simp; done) | (simp; omega)) _ | refine Below.alloc ?_ (by first | omega | (simp; done) | (simp; omega)) _ | refine below_step (by assumption) ?_ (by first | omega | (simp; done) | (simp; omega))))
      | false =>
        have hxs := h0 rfl
        have Hxs := Lib.hid hxs
        clear h0 h1 hxs
        obtain ⟨F, hF⟩ : ∃ F, F = bunF xs := ⟨_, rfl⟩
        have HF := Lib.hid hF
        obtain ⟨fc, fa⟩ := F
        have hcv4 := hcvb.out W4 (Below.refl _ _)
        have hfd : ∀ w : World, (Instr.field 25 (.agg #[.int .i64 fc, .int .i64 fa]) 0).run Tryd.prog w = .ok (.int .i64 fc) w := fun _ => by kernel_rfl
        clear hF
        by_cases hc : fc = 0
        rotate_left
        · have hq : (fc != 0) = true := by simp [hc]
          have Hfin := Lib.hid (Hno.out (open_of HP.out Hxs.out (.inl (by rw [← HF.out]; exact hc))))
          clear hc
          go_upto_region 19 with fail
          first | go_region_law (first
            | (go_simp; go_at_call 47; with_reducible refine BundleFault_calls xs _ _ (by first | with_reducible exact HSL.out | with_reducible exact HSL.out.up (Below.refl _ _).drew (Nat.le_refl _)) _ ?_; intro w5 hb5; rw [← HF.out]; have hbe5 : Below W4.heap.size W4 w5 := (by first | with_reducible exact hb5 | with_reducible exact below_of_drew hb5); have HF5 := Lib.hid (HKB.out w5 hbe5); obtain ⟨e0, e1, x0, x1⟩ := cells_of_block HF5.out.1; have hq5 := HF5.out.2.1; clear hb5 hbe5; go_wp2_with fail)) | fail
          all_goals
            go_wp2
            refine bodyPost_ret (v := .tuple #[.slice none 0 0, .agg #[.int .i64 1, .int .i64 0]]) (res_slF (by rfl) (by rfl) (by rfl) (by repeat (first | with_reducible exact HF5.out.1 | with_reducible refine blk_drew ?_ | with_reducible refine blk_drewN ?_ _ | with_reducible refine blk_alloc ?_ _ | with_reducible apply blk_set1 | with_reducible apply blk_set0 | with_reducible refine blk_other ?_ (by first | (simp; done) | omega | (simp; omega)) _))) rfl ?_
            have hb := HF5.out.2.2
            refine Hfin.out _ ?_
            exact (by repeat (first | exact Below.refl _ _ | assumption | refine below_drewN ?_ _ | refine Below.drew ?_ | refine Below.setCell ?_ (by first | omega | (simp; done) | (simp; omega)) _ | refine Below.alloc ?_ (by first | omega | (simp; done) | (simp; omega)) _ | refine below_step (by assumption) ?_ (by first | omega | (simp; done) | (simp; omega))))
        · have hq : (fc != 0) = false := by simp [hc]
          have hbf := bunF_ok (l := xs) (by rw [← HF.out]; exact hc)
          have hca := HF.out.trans hbf.1
          simp only [Prod.mk.injEq] at hca
          obtain ⟨rfl, rfl⟩ := hca
          have Hok := Lib.hid hbf.2
          have hts : ∀ l : List UInt8, (strL l).toList = l := fun l => by rw [ByteArray.toList_eq]; simp [strL]
          have Hin : Hid (∀ W, Below W4.heap.size W4 W → rpObject.SL W W.heap.size xs (.slice A7 xs.length n7)) := Lib.hid fun W hW => HSL.out.up hW hW.size
          clear hc hbf hq
          by_cases hpk : packB xs = bs
          · have heq : ((strL (packB xs)).toList == (strL bs).toList) = true := by rw [hpk]; simp
            have hop := openF_some (openL_some.2 ⟨hlen, by rw [← HF.out], hpk, Hwd.out⟩)
            have hret := HR.out
            rw [hop.1, hop.2] at hret
            have Hret := Lib.hid hret
            clear hpk hts hop hret
            go_upto_region 19 with fail
            first | go_region_law (first
              | (go_simp; go_at_call 47; with_reducible refine BundleFault_calls xs _ _ (by first | with_reducible exact HSL.out | with_reducible exact HSL.out.up (Below.refl _ _).drew (Nat.le_refl _)) _ ?_; intro w5 hb5; rw [← HF.out]; have hbe5 : Below W4.heap.size W4 w5 := (by first | with_reducible exact hb5 | with_reducible exact below_of_drew hb5); have Hb5 := Lib.hid hbe5; have hcv5 := hcvb.out w5 hbe5; clear hb5 hbe5; go_wp2_with fail)
              | (go_simp; go_at_call 48; with_reducible refine BundleBytes_calls xs _ w5 (Hin.out w5 Hb5.out) Hok.out Hwd.out _ ?_; intro w6 v6 hb6 hbuf6; have hbe6 := Hb5.out.trans (hb6.mono Hb5.out.size); have Hb6 := Lib.hid hbe6; have hcv6 := conv_bytes (P := Tryd.prog) Tryd.underlying39 Tryd.underlying5 Tryd.underlying9 (hbuf6.SL (Nat.le_refl _)); have hcb6 := hcvb.out w6 hbe6; have HF6 := Lib.hid (HKB.out w6 hbe6); obtain ⟨e0, e1, x0, x1⟩ := cells_of_block HF6.out.1; have hq6 := HF6.out.2.1; clear hb6 hbuf6 hbe6; go_wp2_with fail)) | fail
            all_goals
              go_wp2
              refine bodyPost_ret (v := .tuple #[.slice A7 xs.length n7, .agg #[.int .i64 0, .int .i64 0]]) (res_slF (by rfl) (by rfl) (by rfl) (by repeat (first | with_reducible exact HF6.out.1 | with_reducible refine blk_drew ?_ | with_reducible refine blk_drewN ?_ _ | with_reducible refine blk_alloc ?_ _ | with_reducible apply blk_set1 | with_reducible apply blk_set0 | with_reducible refine blk_other ?_ (by first | (simp; done) | omega | (simp; omega)) _))) rfl ?_
              have hb := HF6.out.2.2
              refine Hret.out _ _ ?_ ?_
              · exact (by repeat (first | exact Below.refl _ _ | assumption | refine below_drewN ?_ _ | refine Below.drew ?_ | refine Below.setCell ?_ (by first | omega | (simp; done) | (simp; omega)) _ | refine Below.alloc ?_ (by first | omega | (simp; done) | (simp; omega)) _ | refine below_step (by assumption) ?_ (by first | omega | (simp; done) | (simp; omega))))
              · refine Rp.SLF.more ?_ (Nat.le_of_lt hl0) (Nat.le_refl _)
                exact slf_set (slf_set (HSLF.out.below Hb6.out (Nat.le_refl _)) ⟨w.heap.size, 0, none⟩ hl0 _ w6.heap.size Hb6.out.size) ⟨w.heap.size, 1, none⟩ hl0 _ _ (by simp [World.setCell])
          · have heq : ((strL (packB xs)).toList == (strL bs).toList) = false := by
              rw [hts, hts]
              simp [hpk]
            have Hfin := Lib.hid (Hno.out (open_of HP.out Hxs.out (.inr hpk)))
            clear hpk hts
            go_upto_region 19 with fail
            first | go_region_law (first
              | (go_simp; go_at_call 47; with_reducible refine BundleFault_calls xs _ _ (by first | with_reducible exact HSL.out | with_reducible exact HSL.out.up (Below.refl _ _).drew (Nat.le_refl _)) _ ?_; intro w5 hb5; rw [← HF.out]; have hbe5 : Below W4.heap.size W4 w5 := (by first | with_reducible exact hb5 | with_reducible exact below_of_drew hb5); have Hb5 := Lib.hid hbe5; have hcv5 := hcvb.out w5 hbe5; clear hb5 hbe5; go_wp2_with fail)
              | (go_simp; go_at_call 48; with_reducible refine BundleBytes_calls xs _ w5 (Hin.out w5 Hb5.out) Hok.out Hwd.out _ ?_; intro w6 v6 hb6 hbuf6; have hbe6 := Hb5.out.trans (hb6.mono Hb5.out.size); have Hb6 := Lib.hid hbe6; have hcv6 := conv_bytes (P := Tryd.prog) Tryd.underlying39 Tryd.underlying5 Tryd.underlying9 (hbuf6.SL (Nat.le_refl _)); have hcb6 := hcvb.out w6 hbe6; have HF6 := Lib.hid (HKB.out w6 hbe6); obtain ⟨e0, e1, x0, x1⟩ := cells_of_block HF6.out.1; have hq6 := HF6.out.2.1; clear hb6 hbuf6 hbe6; go_wp2_with fail)) | fail
            all_goals
              go_wp2
              refine bodyPost_ret (v := .tuple #[.slice none 0 0, .agg #[.int .i64 1, .int .i64 0]]) (res_slF (by rfl) (by rfl) (by rfl) (by repeat (first | with_reducible exact HF6.out.1 | with_reducible refine blk_drew ?_ | with_reducible refine blk_drewN ?_ _ | with_reducible refine blk_alloc ?_ _ | with_reducible apply blk_set1 | with_reducible apply blk_set0 | with_reducible refine blk_other ?_ (by first | (simp; done) | omega | (simp; omega)) _))) rfl ?_
              have hb := HF6.out.2.2
              refine Hfin.out _ ?_
              exact (by repeat (first | exact Below.refl _ _ | assumption | refine below_drewN ?_ _ | refine Below.drew ?_ | refine Below.setCell ?_ (by first | omega | (simp; done) | (simp; omega)) _ | refine Below.alloc ?_ (by first | omega | (simp; done) | (simp; omega)) _ | refine below_step (by assumption) ?_ (by first | omega | (simp; done) | (simp; omega))))
end Go.Proofs.YtfhnmbnniklmiaaDoor

/- The law that compares bundle.Open with the document's. -/
namespace Go.Proofs.YtfhnmbnniklmiaaDoor
open Go.RowKit
set_option linter.unusedSimpArgs false
set_option linter.unusedVariables false

set_option maxRecDepth 100000 in
set_option maxHeartbeats 4000000 in
theorem OpenSays_calls (v : Value) (bs : List UInt8) (w : World) (h : rpByte.SL w w.heap.size bs v) (hS : Shapes w) (R : Ending → World → Prop)
    (hR : ∀ w', Below w.heap.size w w' → R (.returned (.bool true)) w') :
    Calls Tryd.prog 7 #[v] w R := by
  obtain ⟨A, c, rfl, hm, hcap, h⟩ := h.cases_
  have HR := Lib.hid hR
  have H := Lib.hid h
  have HSh := Lib.hid hS
  clear hR h hS
  obtain ⟨F, hF⟩ : ∃ F, F = openF bs := ⟨_, rfl⟩
  obtain ⟨l, hl⟩ : ∃ l, l = openO bs := ⟨_, rfl⟩
  have HF := Lib.hid hF
  have Hl := Lib.hid hl
  clear hF hl
  go_enter Tryd.func7, Tryd.ntmps7
  go_wp2_with fail
  refine Open_calls _ bs _ H.out HSh.out _ (fun w1 v1 hb1 hs1 => ?_)
  rw [← Hl.out] at hs1
  rw [← HF.out]
  obtain ⟨A1, c1, rfl, _, _, hs1⟩ := hs1.cases_
  obtain ⟨W1, hW1⟩ : ∃ W1, W1 = w1.alloc (Obj.cells #[.int .i64 F.1, .int .i64 F.2] 25) := ⟨_, rfl⟩
  have hV1 : W1.heap[w1.heap.size]? = some (.cells #[.int .i64 F.1, .int .i64 F.2] 25 (0, 0)) := by subst hW1; exact heap_alloc_new _ _
  have hbw : Below w1.heap.size w1 W1 := by subst hW1; exact (by repeat (first | exact Below.refl _ _ | assumption | refine below_drewN ?_ _ | refine Below.drew ?_ | refine Below.setCell ?_ (by first | omega | (simp; done) | (simp; omega)) _ | refine Below.alloc ?_ (by first | omega | (simp; done) | (simp; omega)) _ | refine below_step (by assumption) ?_ (by first | omega | (simp; done) | (simp; omega))))
  have hb2 := hb1.trans (hbw.mono hb1.size)
  have Hb2 := Lib.hid hb2
  have HV1 := Lib.hid hV1
  have hlV := blk_lt hV1
  have HW1 := Lib.hid hW1.symm
  have Hs1 := Lib.hid (hs1.SL.up hbw hbw.size)
  clear hb1 hW1 hV1 hbw hb2 hs1
  go_wp2_with fail
  rw [HW1.out]
  refine BundleOpen_calls _ bs _ (H.out.up Hb2.out Hb2.out.size) _ (fun w3 v3 hb3 hs3 => ?_)
  rw [← Hl.out] at hs3
  rw [← HF.out]
  obtain ⟨A3, c3, rfl, _, _, hs3⟩ := hs3.cases_
  obtain ⟨W3, hW3⟩ : ∃ W3, W3 = w3.alloc (Obj.cells #[.int .i64 F.1, .int .i64 F.2] 25) := ⟨_, rfl⟩
  have hV3 : W3.heap[w3.heap.size]? = some (.cells #[.int .i64 F.1, .int .i64 F.2] 25 (0, 0)) := by subst hW3; exact heap_alloc_new _ _
  have hbw3 : Below w3.heap.size w3 W3 := by subst hW3; exact (by repeat (first | exact Below.refl _ _ | assumption | refine below_drewN ?_ _ | refine Below.drew ?_ | refine Below.setCell ?_ (by first | omega | (simp; done) | (simp; omega)) _ | refine Below.alloc ?_ (by first | omega | (simp; done) | (simp; omega)) _ | refine below_step (by assumption) ?_ (by first | omega | (simp; done) | (simp; omega))))
  have hb13 : Below W1.heap.size W1 W3 := hb3.trans (hbw3.mono hb3.size)
  have Hend := Lib.hid (Hb2.out.trans (hb13.mono Hb2.out.size))
  obtain ⟨c0, c1'⟩ := cells_blk ((hb13.block _ hlV).trans HV1.out)
  obtain ⟨e0, e1⟩ := cells_blk hV3
  have hlV3 := blk_lt hV3
  have hz3 := hb13.size
  have hlV1 : w1.heap.size < W3.heap.size := by omega
  have HX := Lib.hid (Hs1.out.up hb13 hb13.size)
  have HY := Lib.hid (hs3.SL.up hbw3 hbw3.size)
  have HW3 := Lib.hid hW3.symm
  have hq : ∀ w, (binOp .neq 25 (.agg #[.int .i64 F.1, .int .i64 F.2]) (.agg #[.int .i64 F.1, .int .i64 F.2])).run Tryd.prog w = .ok (.bool false) w := fun w => by rw [neq_Fault]; simp
  have hll : ((l.length : Int) != (l.length : Int)) = false := by simp
  clear hb3 hW3 hV3 hbw3 hb13 hs3
  go_upto_region 3 with fail
  rw [HW3.out]
  go_wp2_with fail
  go_loopg [7] l.length (fun g s7 wr => ∃ k : Nat, k ≤ l.length ∧ g = l.length - k ∧ s7 = .int .i64 (k : Int) ∧ Below W3.heap.size W3 wr)
  case atStart => exact ⟨0, Nat.zero_le _, rfl, rfl, Below.refl _ _⟩
  case round =>
    obtain ⟨k, hk, rfl, rfl, hbel⟩ := hrel
    have Hbel := Lib.hid hbel
    have hz := hbel.size
    have j1 : (0 : Int) ≤ (k : Int) := Int.natCast_nonneg _
    by_cases hlt : k < l.length
    · obtain ⟨b, off, o, v1, v2, rfl, hb, e, h1, h2, r0, r1⟩ := HX.out.object_at hlt
      obtain ⟨b', off', o', v1', v2', rfl, hb', e', h1', h2', r0', r1'⟩ := HY.out.object_at hlt
      obtain rfl : o = o' := Option.some.inj (e.symm.trans e')
      have j2 : (k : Int) < (l.length : Int) := by omega
      have HSS : Hid (∀ W, Below W3.heap.size W3 W → (fun W : World => W.cell? ⟨b, off + k * 2, none⟩ = some v1 ∧ W.cell? ⟨b, off + k * 2 + 1, none⟩ = some v2 ∧ W.cell? ⟨b', off' + k * 2, none⟩ = some v1' ∧ W.cell? ⟨b', off' + k * 2 + 1, none⟩ = some v2') W) := Lib.hid fun W h =>
        ⟨(h.cell (p := ⟨b, off + k * 2, none⟩) hb).trans r0, (h.cell (p := ⟨b, off + k * 2 + 1, none⟩) hb).trans r1, (h.cell (p := ⟨b', off' + k * 2, none⟩) hb').trans r0', (h.cell (p := ⟨b', off' + k * 2 + 1, none⟩) hb').trans r1'⟩
      have hS0 := HSS.out wr.drew hbel.drew
      have hSa := HSS.out wr hbel
      have H1 := Lib.hid h1
      have H2 := Lib.hid h2
      have H1' := Lib.hid h1'
      have H2' := Lib.hid h2'
      clear r0 r1 r0' r1' e e' h1 h2 h1' h2' hbel
      go_wp2_with fail
      first | go_region_held3 (fun W : World => W.cell? ⟨b, off + k * 2, none⟩ = some v1 ∧ W.cell? ⟨b, off + k * 2 + 1, none⟩ = some v2 ∧ W.cell? ⟨b', off' + k * 2, none⟩ = some v1' ∧ W.cell? ⟨b', off' + k * 2 + 1, none⟩ = some v2') (first | with_reducible exact hS0 | with_reducible exact hSa | with_reducible exact hS5) (first
        | (go_at_call 24; with_reducible refine SameObject_calls o v1 v2 v1' v2' _ (by first | with_reducible exact H1.out.up Hbel.out Hbel.out.size | with_reducible exact H1.out.up Hbel.out.drew Hbel.out.drew.size) (by first | with_reducible exact H2.out.up Hbel.out Hbel.out.size | with_reducible exact H2.out.up Hbel.out.drew Hbel.out.drew.size) (by first | with_reducible exact H1'.out.up Hbel.out Hbel.out.size | with_reducible exact H1'.out.up Hbel.out.drew Hbel.out.drew.size) (by first | with_reducible exact H2'.out.up Hbel.out Hbel.out.size | with_reducible exact H2'.out.up Hbel.out.drew Hbel.out.drew.size) _ ?_; intro w5 hb5; have hbe5 : Below wr.heap.size wr w5 := (by first | with_reducible exact hb5 | with_reducible exact below_of_drew hb5); have hbb5 := Hbel.out.trans (hbe5.mono hz); have hS5 := HSS.out w5 hbb5; have Hb5 := Lib.hid hbb5; clear hb5 hbe5 hbb5)) | fail
      all_goals
        go_wp2
        go_roundg (l.length - (k + 1))
        case measure => omega
        case rel => exact ⟨k + 1, hlt, rfl, by go_num, Hb5.out⟩
    · obtain rfl : k = l.length := by omega
      have j2 : ¬ (l.length : Int) < (l.length : Int) := by omega
      have hfin := Lib.hid (HR.out _ (Hend.out.trans (hbel.mono Hend.out.size)))
      clear hbel
      go_wp2
      exact hfin.out
end Go.Proofs.YtfhnmbnniklmiaaDoor
