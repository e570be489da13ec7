/- object.list at int and at api.Mend, with their closures. -/
import Derived.Test.YtfhnmbnniklmiaaDoorBase
import Derived.Test.YtfhnmbnniklmiaaDoorRows
import Derived.IntWalk
import Derived.Deep.LoopGhost
import Derived.Outline
import Derived.Test.YtfhnmbnniklmiaaDoorLoad1
namespace Go.Proofs.YtfhnmbnniklmiaaDoor
open Go.RowKit
set_option linter.unusedSimpArgs false
set_option linter.unusedVariables false
/-- A reader stays while a block above it is written. -/
theorem rd_far {w w' : World} {p b : Nat} {bs : List UInt8} {bad : Bool} (h : Rd w p bs bad) (hg : w.grownBy w' (some b)) (hb : p < b) : Rd w' p bs bad := by
  have hl := h.lt
  obtain ⟨v, T, h1, h2⟩ := h
  exact ⟨v, T, (hg.block p hl (by intro e; injection e with e; omega)).trans h1, h2.keep fun q hq => World.cell?_of_block (hg.block _ (by omega) (by intro e; injection e with e; omega))⟩

set_option maxHeartbeats 1000000 in
theorem oneInt_any (M p : Nat) (bs : List UInt8) (bad : Bool) (w : World) (hM : w.cell? ⟨M, 0, none⟩ = some (.pointer (some ⟨p, 0, none⟩))) (h : Rd w p bs bad) (R : Ending → World → Prop)
    (hR : ∀ (x : Int) r (q : Bool), (q = false → bad = false ∧ intL bs = some (x, r)) → (q = true → bad = true ∨ intL bs = none) → ∀ w', w.grownBy w' (some p) → Rd w' p r q → R (.returned (.int .i64 x)) w') :
    Calls Tryd.prog 145 #[.pointer (some ⟨M, 0, none⟩)] w R := by
  have HR := Lib.hid hR
  have Hrd := Lib.hid h
  clear hR h
  go_enter Tryd.func145, Tryd.ntmps145
  go_wp2_with fail
  refine Number_calls p bs bad _ Hrd.out _ (fun n r hn hb hnum w1 hg1 hr1 => ?_) (fun hbn w1 n r hn hg1 hr1 => ?_)
  · have Hf := Lib.hid (HR.out (unfoldN n) r false (fun _ => ⟨hb, by unfold intL; rw [hnum]; rfl⟩) (fun h => by cases h) w1 hg1 hr1)
    clear hg1 hr1 hnum hb
    go_wp2_with fail
    refine Unfold_calls n hn _ _ ?_
    go_wp2
    exact Hf.out
  · have Hf := Lib.hid (HR.out (unfoldN n) r true (fun h => by cases h) (fun _ => by
      rcases hbn with h | h
      · exact .inl h
      · right
        unfold intL
        rw [h]
        rfl) w1 hg1 hr1)
    clear hg1 hr1 hbn
    go_wp2_with fail
    refine Unfold_calls n hn _ _ ?_
    go_wp2
    exact Hf.out

set_option maxRecDepth 100000 in
set_option maxHeartbeats 4000000 in
theorem listInt_calls (p : Nat) (bs : List UInt8) (bad : Bool) (w : World) (h : Rd w p bs bad) (hlen : bad = false → bs.length ≤ 100000) (M : Nat) (hM : w.cell? ⟨M, 0, none⟩ = some (.pointer (some ⟨p, 0, none⟩))) (hMp : M ≠ p) (R : Ending → World → Prop)
    (hR : ∀ (xs : List Int) (r : List UInt8) (q : Bool), (q = false → bad = false ∧ listL intL bs = some (xs, r)) → (q = true → bad = true ∨ listL intL bs = none) → ∀ w' v, w.grownBy w' (some p) → Rd w' p r q → rpInt.SLF w' w.heap.size w'.heap.size xs v → R (.returned v) w') :
    Calls Tryd.prog 144 #[.pointer (some ⟨p, 0, none⟩), .func (.func 145) #[] #[.pointer (some ⟨M, 0, none⟩)]] w R := by
  obtain ⟨iB, hi, zb0, zb1, zb2⟩ := info_parts info_int3
  have hpl := h.lt
  have HR := Lib.hid hR
  have Hrd := Lib.hid h
  clear hR h
  go_enter Tryd.func144, Tryd.ntmps144
  go_wp2_with fail
  refine many_any p bs bad _ Hrd.out _ (fun n0 r0 q0 hle hq0 hq1 w0 hg0 hr0 => ?_)
  have L0 : Hid (q0 = false → bad = false ∧ (timesL intL n0 r0).map (fun y => (([] : List Int) ++ y.1, y.2)) = listL intL bs ∧ n0 + 0 ≤ 100000 ∧ r0.length ≤ 100000) := Lib.hid fun hq => by
    obtain ⟨h1, h2⟩ := hq0 hq
    have h3 := manyL_short _ _ _ h2
    have h4 := hlen h1
    refine ⟨h1, ?_, by omega, by omega⟩
    unfold listL
    rw [h2]
    show _ = timesL intL n0 r0
    cases timesL intL n0 r0 <;> rfl
  have L1 : Hid (q0 = true → bad = true ∨ listL intL bs = none) := Lib.hid fun hq => by
    rcases hq1 hq with h1 | h1
    · exact .inl h1
    · right
      unfold listL
      rw [h1]
      rfl
  have Hg0 := Lib.hid hg0
  have Hr0 := Lib.hid hr0
  clear hq0 hq1 hg0 hr0 hle
  go_wp2
  go_loopg [5, 6] n0 (fun gh out s6 wr => ∃ (n : Nat) (xs : List Int) (css : List (List Value)) (r : List UInt8) (q : Bool), gh = n ∧ s6 = .int .i64 (n : Int) ∧ Built rpInt w.heap.size 3 (fun b => b < w.heap.size) wr out xs css ∧ Rd wr p r q ∧ w.grownBy wr (some p) ∧
    (q = false → bad = false ∧ (timesL intL n r).map (fun y => (xs ++ y.1, y.2)) = listL intL bs ∧ n + xs.length ≤ 100000 ∧ r.length ≤ 100000) ∧ (q = true → bad = true ∨ listL intL bs = none))
  case atStart => exact ⟨n0, [], [], r0, q0, rfl, rfl, Built.nil _ _ _ _ _ (fun _ h => h), Hr0.out, Hg0.out, L0.out, L1.out⟩
  case round =>
    obtain ⟨n, xs, css, r, q, hgh, rfl, hB, hrd, hgr, l0, l1⟩ := hrel
    have hpw := hrd.lt
    have hsz := hgr.size
    obtain ⟨vr, Tr, hblk, hsv⟩ := id hrd
    obtain ⟨A9, n9, rfl, _, _, _⟩ := hsv.cases_
    obtain ⟨c0, c1, z0, z1⟩ := cells_of_block hblk
    have HB := Lib.hid hB
    have HRd := Lib.hid hrd
    have Hgr := Lib.hid hgr
    have M0 := Lib.hid l0
    have M1 := Lib.hid l1
    have Hgh := Lib.hid hgh
    clear hB hrd hgr l0 l1 hblk hgh hsv
    have hexit : Hid ((q = true ∨ n = 0) → R (.returned u5) wr) := Lib.hid fun hx => by
      refine HR.out xs r q (fun hq => ?_) M1.out wr u5 Hgr.out HRd.out (HB.out.SLF (fun k hk => hk) (Nat.le_refl _) (Nat.le_refl _))
      obtain ⟨h1, h2, _, _⟩ := M0.out hq
      refine ⟨h1, ?_⟩
      rcases hx with hx | hx
      · rw [hq] at hx
        cases hx
      · subst hx
        rw [← h2]
        simp [timesL]
    cases q
    rotate_left
    · have hf := Lib.hid (hexit.out (.inl rfl))
      clear hexit
      by_cases hn : 0 < n
      · have i0 : (0 : Int) < (n : Int) := by omega
        go_wp2
        exact hf.out
      · have i0 : ¬ (0 : Int) < (n : Int) := by omega
        go_wp2
        exact hf.out
    · by_cases hn : n = 0
      · have hf := Lib.hid (hexit.out (.inr hn))
        have i0 : ¬ (0 : Int) < (n : Int) := by omega
        clear hexit
        go_wp2
        all_goals first | exact hf.out | (exfalso; omega)
      · have i0 : (0 : Int) < (n : Int) := by omega
        obtain ⟨m, rfl⟩ : ∃ m, n = m + 1 := ⟨n - 1, by omega⟩
        obtain ⟨hb, ht, hnl, hrl⟩ := M0.out rfl
        have Ht := Lib.hid ht
        have Hbb := Lib.hid hb
        obtain ⟨A5, n5, hu5⟩ : ∃ A c, u5 = .slice A xs.length c := own_slice HB.out.own
        subst hu5
        clear hexit hn ht hb
        have hMl : M < w.heap.size := World.block_lt_of_cell? w _ hM
        have hMr : wr.cell? ⟨M, 0, none⟩ = some (.pointer (some ⟨p, 0, none⟩)) := (World.cell?_of_block (w := w) (Hgr.out.block M hMl (by intro e; injection e with e; exact hMp e))).trans hM
        go_wp2_with fail
        refine oneInt_any M p r false _ hMr HRd.out _ (fun x r2 q2 h0 h1 w1 hg1 hr1 => ?_)
        have hsz1 := hg1.size
        have hkp : ∀ k, k < wr.heap.size → ¬ k < w.heap.size → w1.heap[k]? = wr.heap[k]? := fun k hk hn => hg1.block k hk (by intro e; injection e with e; omega)
        have hB1 := (HB.out.keep hsz1 hkp).alloc (Obj.cells #[.int .i64 x] 3)
        have hA : Apart rpInt (fun b => b < w.heap.size) (w1.alloc (Obj.cells #[.int .i64 x] 3)) (.slice A5 xs.length n5) x [.int .i64 x] := by
          refine Apart.of_only (base := wr.heap.size) (show [_] = [_] from rfl) (fun k hk => by omega) (fun g hg => (HB.out.own.lt g hg).2)
        have Hr1 := Lib.hid hr1
        have HB1 := Lib.hid hB1
        have HA := Lib.hid hA
        have hgw := Lib.hid (grown_trans Hgr.out hg1)
        have hW : Hid ((w1.alloc (Obj.cells #[.int .i64 x] 3)).ownsRow w.heap.size 3 1 (.slice A5 xs.length n5) xs.length css.flatten) := Lib.hid hB1.own
        have hN0 : Hid (q2 = false → bad = false ∧ (timesL intL m r2).map (fun y => ((xs ++ [x]) ++ y.1, y.2)) = listL intL bs ∧ m + (xs ++ [x]).length ≤ 100000 ∧ r2.length ≤ 100000) := Lib.hid fun hq => by
          have h2 := (h0 hq).2
          have h3 := intL_short _ _ _ h2
          refine ⟨Hbb.out, ?_, by rw [List.length_append]; simp; omega, by omega⟩
          rw [← timesL_step h2]
          exact Ht.out
        have hN1 : Hid (q2 = true → bad = true ∨ listL intL bs = none) := Lib.hid fun hq => by
          rcases h1 hq with h2 | h2
          · cases h2
          · right
            have := Ht.out
            rw [timesL_none h2] at this
            exact this.symm
        clear hg1 hr1 hB1 hA hkp h0 h1
        go_wp2_with (at_builtin; refine wpList_append_lies _ rfl _ _ 52 rfl w.heap.size 3 iB _ 1 8 Tryd.underlying52 hi zb0 zb1 zb2 rfl (by decide) (.slice A5 xs.length n5) xs.length css.flatten rfl hW.out ⟨w1.heap.size, 0, none⟩ 1 1 [.int .i64 x] rfl rfl ?_ ?_ (by decide) ?_ ?_ ?_ _ rfl ?_)
        any_goals (first | exact World.news_of_block (cs := #[.int .i64 x]) (t := 3) (fr := (0, 0)) (heap_alloc_new _ _) | (simp [Value.oneCell']; done) | (unfold maxLen; omega) | omega | (simp; done) | (simp; omega))
        intro gb cap w3 hown3 hgrow3 hat3 hlt3
        have hB3 := HB1.out.push hown3 rfl hgrow3 (by simpa using hat3) HA.out
        have hown : ∀ j, Value.ownBlock (.slice A5 xs.length n5) = some j → w.heap.size ≤ j := fun j hj => (HB.out.own.lt j hj).1
        have hgr3 := grown_row (grown_trans hgw.out (grown_of_below ((Below.refl _ _).alloc (Nat.le_refl _) (Obj.cells #[.int .i64 x] 3)) (some p))) hgrow3 hown
        have hr3 := Hr1.out.other ((Below.refl _ _).alloc (Nat.le_refl _) (Obj.cells #[.int .i64 x] 3))
        have hr4 : Rd w3 p r2 q2 := by
          have hl := hr3.lt
          obtain ⟨v8, T8, h8, h9⟩ := hr3
          refine ⟨v8, T8, (hgrow3.block p hl (fun e => by have := hown p e.symm; omega)).trans h8, h9.keep fun a ha => World.cell?_of_block (hgrow3.block _ (by omega) (fun e => by have := hown _ e.symm; omega))⟩
        have HB3 := Lib.hid hB3
        have Hgr3 := Lib.hid hgr3
        have Hr4 := Lib.hid hr4
        clear hown3 hgrow3 hat3 hB3 hown hgr3 hr3 hr4
        go_wp2
        go_roundg m
        case measure => have := Hgh.out; omega
        case rel => exact ⟨m, _, _, r2, q2, rfl, by go_num, HB3.out, Hr4.out, Hgr3.out, hN0.out, hN1.out⟩

theorem res_Mend {fn : Func} {p : Tmp} (h : fn.results = #[.cell p 69]) {tmps : Array Value} {b : Nat} {w : World} {x y : Value} {T : TypeId} (hp : tmps.getD p undef = .pointer (some ⟨b, 0, none⟩))
    (hc : w.heap[b]? = some (.cells #[x, y] T (0, 0))) : (results fn tmps).run Tryd.prog w = .ok (.agg #[x, y]) w := by
  obtain ⟨c0, c1⟩ := cells_blk hc
  rw [Array.getD_eq_getD_getElem?] at hp
  simp [results, h, hp, go_sem, c0, c1]
theorem small_short : Short smallL := fun bs n r h => numberL_short _ _ _ (smallL_some.1 h).1
theorem mendL_short : Short mendL := fun bs m r h => by
  unfold mendL at h
  rw [Option.bind_eq_some_iff] at h
  obtain ⟨⟨n, r1⟩, h1, h2⟩ := h
  rw [Option.map_eq_some_iff] at h2
  obtain ⟨⟨s, r2⟩, h3, h4⟩ := h2
  obtain ⟨_, rfl⟩ := Prod.mk.inj h4
  have := small_short _ _ _ h1
  have := textL_short _ _ _ h3
  simp only [] at *
  omega
/-- Two things that are read, one behind the other. -/
theorem two_read {α β γ : Type} {A : Prs α} {B : Prs β} {f : α → β → γ} {bs r1 r2 : List UInt8} {bad q1 q2 : Bool} {x : α} {y : β} {C : Prs γ} (hC : ∀ bs, C bs = (A bs).bind fun a => (B a.2).map fun b => (f a.1 b.1, b.2))
    (a0 : q1 = false → bad = false ∧ A bs = some (x, r1)) (a1 : q1 = true → bad = true ∨ A bs = none) (b0 : q2 = false → q1 = false ∧ B r1 = some (y, r2)) (b1 : q2 = true → q1 = true ∨ B r1 = none) :
    (q2 = false → bad = false ∧ C bs = some (f x y, r2)) ∧ (q2 = true → bad = true ∨ C bs = none) := by
  constructor
  · intro h
    obtain ⟨h1, h2⟩ := b0 h
    obtain ⟨h3, h4⟩ := a0 h1
    refine ⟨h3, ?_⟩
    rw [hC, h4]
    simp [h2]
  · intro h
    cases q1
    · obtain ⟨h3, h4⟩ := a0 rfl
      rcases b1 h with h5 | h5
      · cases h5
      · right
        rw [hC, h4]
        simp [h5]
    · rcases a1 rfl with h5 | h5
      · exact .inl h5
      · right
        rw [hC, h5]
        rfl

set_option maxHeartbeats 1000000 in
theorem oneMend_any (M p : Nat) (bs : List UInt8) (bad : Bool) (w : World) (hM : w.cell? ⟨M, 0, none⟩ = some (.pointer (some ⟨p, 0, none⟩))) (hMp : M ≠ p) (h : Rd w p bs bad) (R : Ending → World → Prop)
    (hR : ∀ (x : Mend) r (q : Bool), (q = false → bad = false ∧ mendL bs = some (x, r)) → (q = true → bad = true ∨ mendL bs = none) → ∀ w', w.grownBy w' (some p) → Rd w' p r q → R (.returned (.agg #[.int .i64 x.at_, .string x.name])) w') :
    Calls Tryd.prog 147 #[.pointer (some ⟨M, 0, none⟩)] w R := by
  have HR := Lib.hid hR
  have hMl : M < w.heap.size := World.block_lt_of_cell? w _ hM
  have hpl := h.lt
  have hV := heap_alloc_new w (Obj.cells #[.int .i64 0, .string ByteArray.empty] 69)
  have hr0 := Lib.hid (h.other ((Below.refl _ _).alloc (Nat.le_refl _) (Obj.cells #[.int .i64 0, .string ByteArray.empty] 69)))
  have hg0 := grown_of_below ((Below.refl _ _).alloc (Nat.le_refl _) (Obj.cells #[.int .i64 0, .string ByteArray.empty] 69)) (w := w) (some p)
  have HV := Lib.hid hV
  have Hg0 := Lib.hid hg0
  have HM := Lib.hid hM
  clear hR h hV hg0
  go_enter Tryd.func147, Tryd.ntmps147
  go_wp2_with fail
  refine small_any p bs bad _ hr0.out _ (fun n r1 q1 a0 a1 w1 hg1 hr1 => ?_)
  have hz1 := hg1.size
  simp at hz1
  have hM1 : w1.cell? ⟨M, 0, none⟩ = some (.pointer (some ⟨p, 0, none⟩)) := (World.cell?_of_block (hg1.block M (by simp; omega) (by intro e; injection e with e; exact hMp e))).trans ((World.cell?_alloc_lt _ _ _ (by exact hMl)).trans HM.out)
  have hV1 := (hg1.block w.heap.size (by simp) (by intro e; injection e with e; omega)).trans HV.out
  have HV1 := Lib.hid hV1
  have Hg1 := Lib.hid (grown_trans Hg0.out hg1)
  have Hr1 := Lib.hid hr1
  have A0 : Hid (q1 = false → bad = false ∧ (smallL bs).map (fun x => ((x.1 : Int), x.2)) = some (n, r1)) := Lib.hid fun hq => by
    obtain ⟨h1, m, rfl, h2⟩ := a0 hq
    exact ⟨h1, by rw [h2]; rfl⟩
  have A1 : Hid (q1 = true → bad = true ∨ (smallL bs).map (fun x => ((x.1 : Int), x.2)) = none) := Lib.hid fun hq => by
    rcases a1 hq with h1 | h1
    · exact .inl h1
    · right
      rw [h1]
      rfl
  clear hM hg1 hr1 hV1 a0 a1
  go_wp2_with fail
  refine text_any p r1 q1 _ Hr1.out _ (fun s r2 q2 hs b0 b1 w2 hg2 hr2 => ?_)
  have hz2 := hg2.size
  have hV2 := (hg2.block w.heap.size (by omega) (by intro e; injection e with e; omega)).trans HV1.out
  obtain ⟨c0, c1, z0, z1⟩ := cells_of_block hV2
  obtain ⟨l0, l1⟩ := two_read (A := fun bs => (smallL bs).map (fun x => ((x.1 : Int), x.2))) (B := textL) (C := mendL) (f := fun a b => (⟨a, b⟩ : Mend)) (fun bs => by
    unfold mendL
    cases smallL bs <;> rfl) A0.out A1.out b0 b1
  have HV2 := Lib.hid hV2
  have hfin := fun w' hg hr => HR.out ⟨n, s⟩ r2 q2 l0 l1 w' hg hr
  have Hfin := Lib.hid hfin
  have Hg2 := Lib.hid (grown_trans Hg1.out hg2)
  have Hr2 := Lib.hid hr2
  clear hg2 hr2 hV2 b0 b1 l0 l1 hfin
  go_wp2
  refine bodyPost_ret (v := .agg #[.int .i64 n, .string s]) (res_Mend (by rfl) (by rfl) (by repeat (first | with_reducible exact HV2.out | with_reducible refine blk_drew ?_ | with_reducible refine blk_drewN ?_ _ | with_reducible refine blk_alloc ?_ _ | with_reducible apply blk_set1 | with_reducible apply blk_set0 | with_reducible refine blk_other ?_ (by first | (simp; done) | omega | (simp; omega)) _))) rfl ?_
  have hgs : ∀ u v, w2.grownBy ((w2.setCell ⟨w.heap.size, 0, none⟩ u).setCell ⟨w.heap.size, 1, none⟩ v) (some w.heap.size) := fun u v => grown_trans (grown_setCell w2 ⟨w.heap.size, 0, none⟩ u) (grown_setCell _ ⟨w.heap.size, 1, none⟩ v)
  exact Hfin.out _ (grown_row Hg2.out (hgs _ _) (fun j e => by injection e with e; omega)) (rd_far Hr2.out (hgs _ _) hpl)

set_option maxRecDepth 100000 in
set_option maxHeartbeats 4000000 in
theorem listMend_calls (p : Nat) (bs : List UInt8) (bad : Bool) (w : World) (h : Rd w p bs bad) (hlen : bad = false → bs.length ≤ 100000) (M : Nat) (hM : w.cell? ⟨M, 0, none⟩ = some (.pointer (some ⟨p, 0, none⟩))) (hMp : M ≠ p) (R : Ending → World → Prop)
    (hR : ∀ (xs : List Mend) (r : List UInt8) (q : Bool), (q = false → bad = false ∧ listL mendL bs = some (xs, r)) → (q = true → bad = true ∨ listL mendL bs = none) → ∀ w' v, w.grownBy w' (some p) → Rd w' p r q → rpMend.SLF w' w.heap.size w'.heap.size xs v → R (.returned v) w') :
    Calls Tryd.prog 146 #[.pointer (some ⟨p, 0, none⟩), .func (.func 147) #[] #[.pointer (some ⟨M, 0, none⟩)]] w R := by
  obtain ⟨iB, hi, zb0, zb1, zb2⟩ := info_parts info_Mend
  have hpl := h.lt
  have HR := Lib.hid hR
  have Hrd := Lib.hid h
  clear hR h
  go_enter Tryd.func146, Tryd.ntmps146
  go_wp2_with fail
  refine many_any p bs bad _ Hrd.out _ (fun n0 r0 q0 hle hq0 hq1 w0 hg0 hr0 => ?_)
  have L0 : Hid (q0 = false → bad = false ∧ (timesL mendL n0 r0).map (fun y => (([] : List Mend) ++ y.1, y.2)) = listL mendL bs ∧ n0 + 0 ≤ 100000 ∧ r0.length ≤ 100000) := Lib.hid fun hq => by
    obtain ⟨h1, h2⟩ := hq0 hq
    have h3 := manyL_short _ _ _ h2
    have h4 := hlen h1
    refine ⟨h1, ?_, by omega, by omega⟩
    unfold listL
    rw [h2]
    show _ = timesL mendL n0 r0
    cases timesL mendL n0 r0 <;> rfl
  have L1 : Hid (q0 = true → bad = true ∨ listL mendL bs = none) := Lib.hid fun hq => by
    rcases hq1 hq with h1 | h1
    · exact .inl h1
    · right
      unfold listL
      rw [h1]
      rfl
  have Hg0 := Lib.hid hg0
  have Hr0 := Lib.hid hr0
  clear hq0 hq1 hg0 hr0 hle
  go_wp2
  go_loopg [5, 6] n0 (fun gh out s6 wr => ∃ (n : Nat) (xs : List Mend) (css : List (List Value)) (r : List UInt8) (q : Bool), gh = n ∧ s6 = .int .i64 (n : Int) ∧ Built rpMend w.heap.size 69 (fun b => b < w.heap.size) wr out xs css ∧ Rd wr p r q ∧ w.grownBy wr (some p) ∧
    (q = false → bad = false ∧ (timesL mendL n r).map (fun y => (xs ++ y.1, y.2)) = listL mendL bs ∧ n + xs.length ≤ 100000 ∧ r.length ≤ 100000) ∧ (q = true → bad = true ∨ listL mendL bs = none))
  case atStart => exact ⟨n0, [], [], r0, q0, rfl, rfl, Built.nil _ _ _ _ _ (fun _ h => h), Hr0.out, Hg0.out, L0.out, L1.out⟩
  case round =>
    obtain ⟨n, xs, css, r, q, hgh, rfl, hB, hrd, hgr, l0, l1⟩ := hrel
    have hpw := hrd.lt
    have hsz := hgr.size
    obtain ⟨vr, Tr, hblk, hsv⟩ := id hrd
    obtain ⟨A9, n9, rfl, _, _, _⟩ := hsv.cases_
    obtain ⟨c0, c1, z0, z1⟩ := cells_of_block hblk
    have HB := Lib.hid hB
    have HRd := Lib.hid hrd
    have Hgr := Lib.hid hgr
    have M0 := Lib.hid l0
    have M1 := Lib.hid l1
    have Hgh := Lib.hid hgh
    clear hB hrd hgr l0 l1 hblk hgh hsv
    have hexit : Hid ((q = true ∨ n = 0) → R (.returned u5) wr) := Lib.hid fun hx => by
      refine HR.out xs r q (fun hq => ?_) M1.out wr u5 Hgr.out HRd.out (HB.out.SLF (fun k hk => hk) (Nat.le_refl _) (Nat.le_refl _))
      obtain ⟨h1, h2, _, _⟩ := M0.out hq
      refine ⟨h1, ?_⟩
      rcases hx with hx | hx
      · rw [hq] at hx
        cases hx
      · subst hx
        rw [← h2]
        simp [timesL]
    cases q
    rotate_left
    · have hf := Lib.hid (hexit.out (.inl rfl))
      clear hexit
      by_cases hn : 0 < n
      · have i0 : (0 : Int) < (n : Int) := by omega
        go_wp2
        exact hf.out
      · have i0 : ¬ (0 : Int) < (n : Int) := by omega
        go_wp2
        exact hf.out
    · by_cases hn : n = 0
      · have hf := Lib.hid (hexit.out (.inr hn))
        have i0 : ¬ (0 : Int) < (n : Int) := by omega
        clear hexit
        go_wp2
        all_goals first | exact hf.out | (exfalso; omega)
      · have i0 : (0 : Int) < (n : Int) := by omega
        obtain ⟨m, rfl⟩ : ∃ m, n = m + 1 := ⟨n - 1, by omega⟩
        obtain ⟨hb, ht, hnl, hrl⟩ := M0.out rfl
        have Ht := Lib.hid ht
        have Hbb := Lib.hid hb
        obtain ⟨A5, n5, hu5⟩ : ∃ A c, u5 = .slice A xs.length c := own_slice HB.out.own
        subst hu5
        clear hexit hn ht hb
        have hMl : M < w.heap.size := World.block_lt_of_cell? w _ hM
        have hMr : wr.cell? ⟨M, 0, none⟩ = some (.pointer (some ⟨p, 0, none⟩)) := (World.cell?_of_block (w := w) (Hgr.out.block M hMl (by intro e; injection e with e; exact hMp e))).trans hM
        go_wp2_with fail
        refine oneMend_any M p r false _ hMr hMp HRd.out _ (fun x r2 q2 h0 h1 w1 hg1 hr1 => ?_)
        have hsz1 := hg1.size
        have hkp : ∀ k, k < wr.heap.size → ¬ k < w.heap.size → w1.heap[k]? = wr.heap[k]? := fun k hk hn => hg1.block k hk (by intro e; injection e with e; omega)
        have hB1 := (HB.out.keep hsz1 hkp).alloc (Obj.cells #[.int .i64 x.at_, .string x.name] 69)
        have hA : Apart rpMend (fun b => b < w.heap.size) (w1.alloc (Obj.cells #[.int .i64 x.at_, .string x.name] 69)) (.slice A5 xs.length n5) x [.int .i64 x.at_, .string x.name] := by
          refine Apart.of_only (base := wr.heap.size) (rpMend_rep.2 rfl) (fun k hk => by omega) (fun g hg => (HB.out.own.lt g hg).2)
        have Hr1 := Lib.hid hr1
        have HB1 := Lib.hid hB1
        have HA := Lib.hid hA
        have hgw := Lib.hid (grown_trans Hgr.out hg1)
        have hW : Hid ((w1.alloc (Obj.cells #[.int .i64 x.at_, .string x.name] 69)).ownsRow w.heap.size 69 2 (.slice A5 xs.length n5) xs.length css.flatten) := Lib.hid hB1.own
        have hN0 : Hid (q2 = false → bad = false ∧ (timesL mendL m r2).map (fun y => ((xs ++ [x]) ++ y.1, y.2)) = listL mendL bs ∧ m + (xs ++ [x]).length ≤ 100000 ∧ r2.length ≤ 100000) := Lib.hid fun hq => by
          have h2 := (h0 hq).2
          have h3 := mendL_short _ _ _ h2
          refine ⟨Hbb.out, ?_, by rw [List.length_append]; simp; omega, by omega⟩
          rw [← timesL_step h2]
          exact Ht.out
        have hN1 : Hid (q2 = true → bad = true ∨ listL mendL bs = none) := Lib.hid fun hq => by
          rcases h1 hq with h2 | h2
          · cases h2
          · right
            have := Ht.out
            rw [timesL_none h2] at this
            exact this.symm
        clear hg1 hr1 hB1 hA hkp h0 h1
        go_wp2_with (at_builtin; refine wpList_append_lies _ rfl _ _ 62 rfl w.heap.size 69 iB _ 2 24 Tryd.underlying62 hi zb0 zb1 zb2 rfl (by decide) (.slice A5 xs.length n5) xs.length css.flatten rfl hW.out ⟨w1.heap.size, 0, none⟩ 1 1 [.int .i64 x.at_, .string x.name] rfl rfl ?_ ?_ (by decide) ?_ ?_ ?_ _ rfl ?_)
        any_goals (first | exact World.news_of_block (cs := #[.int .i64 x.at_, .string x.name]) (t := 69) (fr := (0, 0)) (heap_alloc_new _ _) | (simp [Value.oneCell']; done) | (unfold maxLen; omega) | omega | (simp; done) | (simp; omega))
        intro gb cap w3 hown3 hgrow3 hat3 hlt3
        have hB3 := HB1.out.push hown3 rfl hgrow3 (by simpa using hat3) HA.out
        have hown : ∀ j, Value.ownBlock (.slice A5 xs.length n5) = some j → w.heap.size ≤ j := fun j hj => (HB.out.own.lt j hj).1
        have hgr3 := grown_row (grown_trans hgw.out (grown_of_below ((Below.refl _ _).alloc (Nat.le_refl _) (Obj.cells #[.int .i64 x.at_, .string x.name] 69)) (some p))) hgrow3 hown
        have hr3 := Hr1.out.other ((Below.refl _ _).alloc (Nat.le_refl _) (Obj.cells #[.int .i64 x.at_, .string x.name] 69))
        have hr4 : Rd w3 p r2 q2 := by
          have hl := hr3.lt
          obtain ⟨v8, T8, h8, h9⟩ := hr3
          refine ⟨v8, T8, (hgrow3.block p hl (fun e => by have := hown p e.symm; omega)).trans h8, h9.keep fun a ha => World.cell?_of_block (hgrow3.block _ (by omega) (fun e => by have := hown _ e.symm; omega))⟩
        have HB3 := Lib.hid hB3
        have Hgr3 := Lib.hid hgr3
        have Hr4 := Lib.hid hr4
        clear hown3 hgrow3 hat3 hB3 hown hgr3 hr3 hr4
        go_wp2
        go_roundg m
        case measure => have := Hgh.out; omega
        case rel => exact ⟨m, _, _, r2, q2, rfl, by go_num, HB3.out, Hr4.out, Hgr3.out, hN0.out, hN1.out⟩
end Go.Proofs.YtfhnmbnniklmiaaDoor
