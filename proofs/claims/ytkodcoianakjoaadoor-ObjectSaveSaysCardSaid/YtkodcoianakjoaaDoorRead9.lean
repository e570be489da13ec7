/- bytes.Read: instructions out of bytes. -/
import Derived.Test.YtkodcoianakjoaaDoorLib
import Derived.Test.YtkodcoianakjoaaDoorRows
import Derived.IntWalk
import Derived.Deep.LoopGhost
import Derived.Test.YtkodcoianakjoaaDoorRead7
import Derived.Test.YtkodcoianakjoaaDoorRead8
import Derived.Test.YtkodcoianakjoaaDoorMac4
import Derived.Test.YtkodcoianakjoaaDoorLib3
namespace Go.Proofs.YtkodcoianakjoaaDoor
open Go.RowKit
set_option linter.unusedSimpArgs false
set_option linter.unusedVariables false

theorem cells_alloc2 {w : World} {b : Nat} {x y : Value} (h : w.cell? ⟨b, 0, none⟩ = some x ∧ w.cell? ⟨b, 1, none⟩ = some y) (o : Obj) : (w.alloc o).cell? ⟨b, 0, none⟩ = some x ∧ (w.alloc o).cell? ⟨b, 1, none⟩ = some y := by
  have hb : b < w.heap.size := World.block_lt_of_cell? w _ h.1
  exact ⟨(World.cell?_alloc_lt _ _ _ hb).trans h.1, (World.cell?_alloc_lt _ _ _ hb).trans h.2⟩
theorem own_kept {w w1 : World} {base e size n p : Nat} {v : Value} {xs : List Value} (h : w.ownsRow base e size v n xs) (hg : w.grownBy w1 (some p)) (hp : p < base) : w1.ownsRow base e size v n xs :=
  h.kept hg (by
    cases hv : v.ownBlock with
    | none => exact .inl rfl
    | some k => exact .inr (by have := (h.lt k hv).1; simp; omega))
theorem res_slice_Fault {fn : Func} {t p : Tmp} (h : fn.results = #[.tmp t, .cell p 27]) {tmps : Array Value} {b : Nat} {w : World} {v x y : Value} (ht : tmps.getD t undef = v) (hp : tmps.getD p undef = .pointer (some ⟨b, 0, none⟩))
    (hc : w.cell? ⟨b, 0, none⟩ = some x ∧ w.cell? ⟨b, 1, none⟩ = some y) : (results fn tmps).run Tryd.prog w = .ok (.tuple #[v, .agg #[x, y]]) w := by
  rw [Array.getD_eq_getD_getElem?] at hp ht
  simp [results, h, hp, ht, go_sem, hc.1, hc.2]

set_option maxRecDepth 100000 in
set_option maxHeartbeats 4000000 in
theorem Read_calls (v : Value) (bs : List UInt8) (w : World) (h : rpByte.SL w w.heap.size bs v) (hS : Shapes w) (R : Ending → World → Prop)
    (hsome : ∀ l, readL bs = some l → ∀ w' u, Below w.heap.size w w' → rpMac.SL w' w'.heap.size l u → R (.returned (.tuple #[u, .agg #[.int .i64 0, .int .i64 0]])) w')
    (hnone : readL bs = none → ∀ w' (c a : Int), c ≠ 0 → Below w.heap.size w w' → R (.returned (.tuple #[.slice none 0 0, .agg #[.int .i64 c, .int .i64 a]])) w') :
    Calls Tryd.prog 82 #[v] w R := by
  have Hsome := Lib.hid hsome
  have Hnone := Lib.hid hnone
  have HS := Lib.hid hS
  have h0 := hS.1
  obtain ⟨A, n, rfl, hm, hcap, hs⟩ := h.cases_
  obtain ⟨i0, hi, iz0, iz1, iz2⟩ := info_parts info_Mac
  have Hs := Lib.hid hs
  clear hsome hnone hS h hs
  by_cases hmany : 70000 < bs.length
  · have hno := Lib.hid (Hnone.out (by rw [readL_eq, if_pos hmany]))
    have hmi : (70000 : Int) < (bs.length : Int) := by omega
    clear hmany
    go_enter Tryd.func82, Tryd.ntmps82
    go_wp2
    refine bodyPost_ret (v := .tuple #[.slice none 0 0, (.agg #[.int .i64 ((2, 0)).1, .int .i64 ((2, 0)).2])]) (by simp [results, Tryd.results82, go_sem]) rfl ?_
    exact hno.out _ 2 0 (by decide) (by repeat (first | exact Below.refl _ _ | assumption | refine below_drewN ?_ _ | refine Below.drew ?_ | refine Below.setCell ?_ (by first | omega | (simp; done) | (simp; omega)) _ | refine Below.alloc ?_ (by first | omega | (simp; done) | (simp; omega)) _ | refine below_step (by assumption) ?_ (by first | omega | (simp; done) | (simp; omega))))
  · have hmi : ¬ (70000 : Int) < (bs.length : Int) := by omega
    have hF : ∀ wr, Below (w.heap.size + 1) (w.alloc (Obj.cells #[.int .i64 0, .int .i64 0] 27)) wr → Below w.heap.size w wr := fun wr h => ((Below.refl _ _).alloc (Nat.le_refl _) _).trans (h.mono (by omega))
    have HF := Lib.hid hF
    have hlen : bs.length ≤ 70000 := by omega
    clear hF
    go_enter Tryd.func82, Tryd.ntmps82
    go_wp2
    go_loopg [4, 6, 7] bs.length (fun g out at_ mm wr => ∃ (done : List Mac) (rest : List UInt8), g = rest.length ∧ done.length + rest.length ≤ bs.length ∧ wr.ownsRow (w.heap.size + 2) 70 5 out done.length (done.flatMap Mac.cells) ∧ Rd wr (w.heap.size + 1) rest false ∧ Below (w.heap.size + 1) (w.alloc (Obj.cells #[.int .i64 0, .int .i64 0] 27)) wr ∧ (macsAll rest).map (fun l => done ++ l) = macsAll bs)
    case atStart =>
      refine ⟨[], bs, rfl, by simp, World.ownsRow_nil _ _ _ _, ?_, (by repeat (first | exact Below.refl _ _ | assumption | refine below_drewN ?_ _ | refine Below.drew ?_ | refine Below.setCell ?_ (by first | omega | (simp; done) | (simp; omega)) _ | refine Below.alloc ?_ (by first | omega | (simp; done) | (simp; omega)) _ | refine below_step (by assumption) ?_ (by first | omega | (simp; done) | (simp; omega)))), by simp⟩
      refine ⟨_, 97, ?_, (Hs.out.up (B' := w.heap.size + 1) (((Below.refl _ _).alloc (Nat.le_refl _) _).alloc (by simp) _) (by omega))⟩
      have := heap_alloc_new (w.alloc (Obj.cells #[.int .i64 0, .int .i64 0] 27)) (Obj.cells #[.slice A bs.length n, .bool false] 97)
      simpa using this
    case round =>
      obtain ⟨done, rest, rfl, hlen2, hown, hrd, hbel, hq⟩ := hrel
      have Hq := Lib.hid hq
      have Hrd := Lib.hid hrd
      have Hbel := Lib.hid hbel
      have Hown := Lib.hid hown
      have hz := hbel.size
      simp at hz
      have hS1 := Lib.hid (HS.out.up (HF.out _ hbel) h0)
      obtain ⟨uu, T, hbk, hsl⟩ := id hrd
      obtain ⟨c0, c1, y0, y1⟩ := cells_of_block hbk
      obtain ⟨A2, n2, rfl, hm2, hcap2, hsl⟩ := hsl.cases_
      have d0 : wr.cell? ⟨w.heap.size, 0, none⟩ = some (.int .i64 0) := by rw [hbel.cell (by simp)]; simp
      have d1 : wr.cell? ⟨w.heap.size, 1, none⟩ = some (.int .i64 0) := by rw [hbel.cell (by simp)]; simp
      have e0 : wr.frozen? ⟨w.heap.size, 0, none⟩ = false := by rw [hbel.frozen (by simp)]; simp
      have e1 : wr.frozen? ⟨w.heap.size, 1, none⟩ = false := by rw [hbel.frozen (by simp)]; simp
      clear hq hrd hbel hown hbk hsl
      by_cases hrest : rest = []
      · subst hrest
        have hrl := macs_end Hq.out (by omega)
        have hsl2 : rpMac.SL wr wr.heap.size done u4 := SLMac_own Hown.out (Nat.le_refl _)
        have Hrl := Lib.hid hrl
        clear hrl
        simp only [List.length_nil] at *
        go_wp2_with fail
        refine Check_calls _ done _ hsl2 hS1.out _ (fun w1 hb1 => ?_)
        have hbel2 : Below (w.heap.size + 1) (w.alloc (Obj.cells #[.int .i64 0, .int .i64 0] 27)) w1 := Hbel.out.trans (hb1.mono (by omega))
        have f0 : w1.cell? ⟨w.heap.size, 0, none⟩ = some (.int .i64 0) := by rw [hbel2.cell (by simp)]; simp
        have f1 : w1.cell? ⟨w.heap.size, 1, none⟩ = some (.int .i64 0) := by rw [hbel2.cell (by simp)]; simp
        have g0 : w1.frozen? ⟨w.heap.size, 0, none⟩ = false := by rw [hbel2.frozen (by simp)]; simp
        have g1 : w1.frozen? ⟨w.heap.size, 1, none⟩ = false := by rw [hbel2.frozen (by simp)]; simp
        have hz1 := hb1.size
        have hpw : w.heap.size < w1.heap.size := by omega
        have Hbel2 := Lib.hid hbel2
        have hown1 := Hown.out.kept (⟨hb1.os, hb1.tape, hb1.output, hb1.size, fun k hk _ => hb1.block k hk⟩ : wr.grownBy w1 none) (by cases hv : Value.ownBlock _ <;> simp)
        have Hown1 := Lib.hid hown1
        have hmz := macsFault_zero done
        generalize macsFault done = F at *
        obtain ⟨c, a⟩ := F
        simp only [] at hmz ⊢
        clear hbel2 d0 d1 e0 e1 c0 c1 y0 y1 hb1 hsl2 hown1
        by_cases hc : c = 0
        · have hca := hmz hc
          simp only [Prod.mk.injEq] at hca
          obtain ⟨rfl, rfl⟩ := hca
          have hso := Hsome.out done (by rw [Hrl.out, if_pos rfl])
          have Hso := Lib.hid hso
          clear hso hmz hc
          go_wp2
          refine bodyPost_ret (v := .tuple #[u4, (.agg #[.int .i64 ((0, 0)).1, .int .i64 ((0, 0)).2])]) (res_slice_Fault (by rfl) (by rfl) (by rfl) (cells_alloc2 (cells_set2 (a := w.alloc (Obj.cells #[Value.int IntKind.i64 0, Value.int IntKind.i64 0] 27)) (B := w.heap.size + 1) Hbel2.out (Nat.lt_succ_self _) (by simp; rfl) (by simp; rfl) _ _) _)) rfl ?_
          have hb3 := HF.out _ Hbel2.out
          have hb4 := hb3.setCell (p := ⟨w.heap.size, 0, none⟩) (Nat.le_refl _) (.int .i64 0)
          have hb5 := hb4.setCell (p := ⟨w.heap.size, 1, none⟩) (Nat.le_refl _) (.int .i64 0)
          have hw1 := ownsRow_setCell_below (ownsRow_setCell_below Hown1.out (a := ⟨w.heap.size, 0, none⟩) (by show w.heap.size < w.heap.size + 2; omega) (.int .i64 0)) (a := ⟨w.heap.size, 1, none⟩) (by show w.heap.size < w.heap.size + 2; omega) (.int .i64 0)
          exact Hso.out _ _ (hb5.alloc (Nat.le_trans (Nat.le_of_lt hpw) (by simp [World.setCell])) _) (SLMac_own (hw1.alloc _) (Nat.le_refl _))
        · have hno := Lib.hid (Hnone.out (by rw [Hrl.out, if_neg (by simp [hc])]))
          have hcn : (c != 0) = true := by simp [hc]
          have Hc := Lib.hid hc
          clear hmz hc
          go_wp2
          go_region
          go_wp2
          refine bodyPost_ret (v := .tuple #[.slice none 0 0, (.agg #[.int .i64 ((c, a)).1, .int .i64 ((c, a)).2])]) (res_slice_Fault (by rfl) (by rfl) (by rfl) (cells_alloc2 (cells_set2 (a := w.alloc (Obj.cells #[Value.int IntKind.i64 0, Value.int IntKind.i64 0] 27)) (B := w.heap.size + 1) Hbel2.out (Nat.lt_succ_self _) (by simp; rfl) (by simp; rfl) _ _) _)) rfl ?_
          have hb3 := HF.out _ Hbel2.out
          have hb4 := hb3.setCell (p := ⟨w.heap.size, 0, none⟩) (Nat.le_refl _) (.int .i64 c)
          have hb5 := hb4.setCell (p := ⟨w.heap.size, 1, none⟩) (Nat.le_refl _) (.int .i64 a)
          exact hno.out _ c a Hc.out (Below.drew (hb5.alloc (Nat.le_trans (Nat.le_of_lt hpw) (by simp [World.setCell])) _))
      · have hpos : (0 : Int) < (rest.length : Int) := by have := List.length_pos_iff.2 hrest; omega
        have Hrest := Lib.hid hrest
        clear hrest
        go_wp2_with fail
        refine readerMac_calls (w.heap.size + 1) rest false _ Hrd.out hS1.out (by omega) _ (fun m r _ hmac w1 hg1 hr1 => ?_) (fun hbad w1 m r hg1 hr1 => ?_)
        · have hq1 := macs_some Hq.out hmac
          have hrl := macL_short hmac
          have hown1 := own_kept Hown.out hg1 (by omega)
          have hbel1 : Below (w.heap.size + 1) (w.alloc (Obj.cells #[.int .i64 0, .int .i64 0] 27)) w1 := Hbel.out.trans (grown_below hg1 (Nat.le_refl _) (by omega))
          have hz1 := hg1.size
          have hpz := hr1.lt
          obtain ⟨u1, T1, hbk1, hsl1⟩ := id hr1
          obtain ⟨k0, k1, x0, x1⟩ := cells_of_block hbk1
          have Hq1 := Lib.hid hq1
          have Hr1 := Lib.hid hr1
          have Hbel1 := Lib.hid hbel1
          rw [show m.arr = #[.int .i64 m.op, .int .i64 m.dst, .int .i64 m.a, .int .i64 m.b, .int .i64 m.n] from rfl]
          clear hq1 hr1 hbel1 hbk1 hsl1 hmac c0 c1 y0 y1 d0 d1 e0 e1 hg1
          obtain ⟨A5, c5, rfl⟩ := own_slice hown1
          go_wp2_with (at_builtin; refine wpList_append_own _ rfl _ _ 66 rfl (w.heap.size + 2) 70 i0 _ 5 40 Tryd.underlying66 hi iz0 iz1 iz2 rfl (by decide) (.slice A5 done.length c5) done.length (done.flatMap Mac.cells) rfl ((hown1.alloc _).alloc _) ⟨w1.heap.size + 1, 0, none⟩ 1 1 [.int .i64 m.op, .int .i64 m.dst, .int .i64 m.a, .int .i64 m.b, .int .i64 m.n] rfl rfl ?_ ?_ ?_ ?_ ?_ ?_)
          any_goals first | exact World.news_of_block (cs := #[.int .i64 m.op, .int .i64 m.dst, .int .i64 m.a, .int .i64 m.b, .int .i64 m.n]) (t := 70) (fr := (0, 0)) (by have := heap_alloc_new (w1.alloc (Obj.cells #[.int .i64 m.op, .int .i64 m.dst, .int .i64 m.a, .int .i64 m.b, .int .i64 m.n] 70)) (Obj.cells #[.int .i64 m.op, .int .i64 m.dst, .int .i64 m.a, .int .i64 m.b, .int .i64 m.n] 70); simpa using this) | (simp [Value.oneCell']; done) | (unfold maxLen; omega) | omega | (simp; done) | (simp; omega)
          · intro v' w2 hown2 hgrow _
            have hgr : ∀ k, (Value.slice A5 done.length c5).ownBlock = some k → w.heap.size + 2 ≤ k := fun k hk => (hown1.lt k hk).1
            have hb12 : Below (w.heap.size + 2) w1 w2 := (((Below.refl _ w1).alloc (by omega) (Obj.cells #[.int .i64 m.op, .int .i64 m.dst, .int .i64 m.a, .int .i64 m.b, .int .i64 m.n] 70)).alloc (by simp; omega) (Obj.cells #[.int .i64 m.op, .int .i64 m.dst, .int .i64 m.a, .int .i64 m.b, .int .i64 m.n] 70)).grown hgrow (by simp; omega) hgr
            have H1 := Lib.hid (And.intro hown2 (And.intro (Hr1.out.below hb12 (by omega)) (Hbel1.out.trans (hb12.mono (by omega)))))
            clear hown1 hown2 hgrow hgr hb12
            go_wp2
            go_roundg r.length
            case measure => exact hrl
            case rel => exact ⟨done ++ [m], r, rfl, by simp; omega, by simpa [Mac.cells] using H1.out.1, H1.out.2.1, H1.out.2.2, Hq1.out⟩
        · have hmac : macL rest = none := by simpa using hbad
          have hno := Lib.hid (Hnone.out (macs_none Hq.out Hrest.out hmac))
          have hz1 := hg1.size
          have hpz := hr1.lt
          have hbel1 : Below (w.heap.size + 1) (w.alloc (Obj.cells #[.int .i64 0, .int .i64 0] 27)) w1 := Hbel.out.trans (grown_below hg1 (Nat.le_refl _) (by omega))
          obtain ⟨u1, T1, hbk1, hsl1⟩ := id hr1
          obtain ⟨k0, k1, x0, x1⟩ := cells_of_block hbk1
          have f0 : w1.cell? ⟨w.heap.size, 0, none⟩ = some (.int .i64 0) := by rw [hbel1.cell (by simp)]; simp
          have f1 : w1.cell? ⟨w.heap.size, 1, none⟩ = some (.int .i64 0) := by rw [hbel1.cell (by simp)]; simp
          have g0 : w1.frozen? ⟨w.heap.size, 0, none⟩ = false := by rw [hbel1.frozen (by simp)]; simp
          have g1 : w1.frozen? ⟨w.heap.size, 1, none⟩ = false := by rw [hbel1.frozen (by simp)]; simp
          have Hbel1 := Lib.hid hbel1
          have hpw : w.heap.size < w1.heap.size := by omega
          rw [show m.arr = #[.int .i64 m.op, .int .i64 m.dst, .int .i64 m.a, .int .i64 m.b, .int .i64 m.n] from rfl]
          clear hbel1 hbk1 hsl1 hmac c0 c1 y0 y1 d0 d1 e0 e1 hg1 hr1 hbad
          go_wp2
          have hbel1 := Hbel1.out
          refine bodyPost_ret (v := .tuple #[.slice none 0 0, (.agg #[.int .i64 ((1, (bs.length : Int) - rest.length)).1, .int .i64 ((1, (bs.length : Int) - rest.length)).2])]) (res_slice_Fault (by rfl) (by rfl) (by rfl) (cells_alloc2 (cells_set2 (a := w.alloc (Obj.cells #[Value.int IntKind.i64 0, Value.int IntKind.i64 0] 27)) (B := w.heap.size + 1) hbel1 (Nat.lt_succ_self _) (by simp; rfl) (by simp; rfl) _ _) _)) rfl ?_
          have hb3 := HF.out _ hbel1
          have hb4 := hb3.setCell (p := ⟨w.heap.size, 0, none⟩) (Nat.le_refl _) (.int .i64 1)
          have hb5 := hb4.setCell (p := ⟨w.heap.size, 1, none⟩) (Nat.le_refl _) (.int .i64 ((bs.length : Int) - rest.length))
          exact hno.out _ 1 _ (by decide) (hb5.alloc (Nat.le_trans (Nat.le_of_lt hpw) (by simp [World.setCell])) _)
end Go.Proofs.YtkodcoianakjoaaDoor
