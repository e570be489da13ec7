/- The document's answer: instructions out of bytes. -/
import Derived.Test.YtkodcoianakjoaaDoorLib
import Derived.Test.YtkodcoianakjoaaDoorRows
import Derived.IntWalk
import Derived.Deep.LoopGhost
import Derived.Test.YtkodcoianakjoaaDoorRead9
import Derived.Test.YtkodcoianakjoaaDoorMacRef5
namespace Go.Proofs.YtkodcoianakjoaaDoor
open Go.RowKit
set_option linter.unusedSimpArgs false
set_option linter.unusedVariables false

theorem numL_suffix : ∀ (f i acc : Nat) (bs : List UInt8) (n : Nat) (r : List UInt8), numL f i acc bs = some (n, r) → r <:+ bs
  | 0, _, _, _, _, _, h => by cases h
  | _ + 1, _, _, [], _, _, h => by cases h
  | f + 1, i, acc, b :: bs, n, r, h => by
    unfold numL at h
    split at h
    · cases h
    split at h
    · obtain ⟨_, rfl⟩ := Prod.mk.inj (Option.some.inj h)
      exact List.suffix_cons _ _
    · exact (numL_suffix f _ _ _ _ _ h).trans (List.suffix_cons _ _)
theorem regsL_suffix : ∀ (k : Nat) (bs : List UInt8) (l : List Int) (r : List UInt8), regsL k bs = some (l, r) → r <:+ bs
  | 0, bs, l, r, h => by
    unfold regsL at h
    obtain ⟨rfl, rfl⟩ := Prod.mk.inj (Option.some.inj h)
    exact List.suffix_refl _
  | 1, [], l, r, h => by simp [regsL] at h
  | n + 2, [], l, r, h => by simp [regsL] at h
  | 1, b :: bs, l, r, h => by
    unfold regsL at h
    split at h
    · cases h
    · obtain ⟨rfl, rfl⟩ := Prod.mk.inj (Option.some.inj h)
      exact List.suffix_cons _ _
  | n + 2, b :: bs, l, r, h => by
    unfold regsL at h
    rw [Option.map_eq_some_iff] at h
    obtain ⟨⟨l', r'⟩, h1, h2⟩ := h
    obtain ⟨rfl, rfl⟩ := Prod.mk.inj h2
    exact (regsL_suffix n bs _ _ h1).trans (List.suffix_cons _ _)
theorem macL_suffix {bs : List UInt8} {m : Mac} {r : List UInt8} (h : macL bs = some (m, r)) : r <:+ bs := by
  cases bs with
  | nil => cases h
  | cons b bs =>
    rw [macL] at h
    split at h
    · cases h
    rw [Option.bind_eq_some_iff] at h
    obtain ⟨⟨l, r'⟩, h1, h2⟩ := h
    have s1 := regsL_suffix _ _ _ _ h1
    split at h2
    · obtain ⟨_, rfl⟩ := Prod.mk.inj (Option.some.inj h2)
      exact s1.trans (List.suffix_cons _ _)
    · rw [Option.map_eq_some_iff] at h2
      obtain ⟨⟨x, r''⟩, h3, h4⟩ := h2
      obtain ⟨_, rfl⟩ := Prod.mk.inj h4
      exact ((numL_suffix _ _ _ _ _ _ h3).trans s1).trans (List.suffix_cons _ _)
theorem macL_at {bs r : List UInt8} {m : Mac} {j : Nat} (h : macL (bs.drop j) = some (m, r)) : ∃ i : Nat, placeOf bs r = (i : Int) ∧ r = bs.drop i ∧ j < i ∧ i ≤ bs.length := by
  have h1 := (macL_suffix h).trans (List.drop_suffix j bs)
  have h2 := h1.length_le
  have h3 := macL_short h
  rw [List.length_drop] at h3
  refine ⟨bs.length - r.length, by unfold placeOf; omega, List.suffix_iff_eq_drop.1 h1, by omega, by omega⟩

set_option maxRecDepth 100000 in
set_option maxHeartbeats 4000000 in
theorem BytesRead_calls (v : Value) (bs : List UInt8) (w : World) (h : rpByte.SL w w.heap.size bs v) (R : Ending → World → Prop)
    (hsome : ∀ l, readL bs = some l → ∀ w' u, Below w.heap.size w w' → rpMac.SL w' w'.heap.size l u → R (.returned (.tuple #[u, .agg #[.int .i64 0, .int .i64 0]])) w')
    (hnone : readL bs = none → ∀ w' (c a : Int), c ≠ 0 → Below w.heap.size w w' → R (.returned (.tuple #[.slice none 0 0, .agg #[.int .i64 c, .int .i64 a]])) w') :
    Calls Tryd.prog 83 #[v] w R := by
  have Hsome := Lib.hid hsome
  have Hnone := Lib.hid hnone
  obtain ⟨A, n, rfl, hm, hcap, hs⟩ := h.cases_
  obtain ⟨i0, hi, iz0, iz1, iz2⟩ := info_parts info_Mac
  have Hs := Lib.hid hs
  clear hsome hnone h hs
  by_cases hmany : 70000 < bs.length
  · have hno := Lib.hid (Hnone.out (by rw [readL_eq, if_pos hmany]))
    have hmi : (70000 : Int) < (bs.length : Int) := by omega
    clear hmany
    go_enter Tryd.func83, Tryd.ntmps83
    go_wp2
    refine bodyPost_ret (v := .tuple #[.slice none 0 0, (.agg #[.int .i64 ((2, 0)).1, .int .i64 ((2, 0)).2])]) (by simp [results, Tryd.results83, go_sem]) rfl ?_
    exact hno.out _ 2 0 (by decide) (by repeat (first | exact Below.refl _ _ | assumption | refine below_drewN ?_ _ | refine Below.drew ?_ | refine Below.setCell ?_ (by first | omega | (simp; done) | (simp; omega)) _ | refine Below.alloc ?_ (by first | omega | (simp; done) | (simp; omega)) _ | refine below_step (by assumption) ?_ (by first | omega | (simp; done) | (simp; omega))))
  · have hmi : ¬ (70000 : Int) < (bs.length : Int) := by omega
    have hF : ∀ wr, Below (w.heap.size + 1) (w.alloc (Obj.cells #[.int .i64 0, .int .i64 0] 27)) wr → Below w.heap.size w wr := fun wr h => ((Below.refl _ _).alloc (Nat.le_refl _) _).trans (h.mono (by omega))
    have HF := Lib.hid hF
    have hlen : bs.length ≤ 70000 := by omega
    clear hF
    go_enter Tryd.func83, Tryd.ntmps83
    go_wp2
    go_loopg [4, 5, 6, 7, 17] bs.length (fun g out at_ mm nx tt wr => ∃ (done : List Mac) (j : Nat), g = bs.length - j ∧ at_ = .int .i64 (j : Int) ∧ j ≤ bs.length ∧ done.length ≤ j ∧ wr.ownsRow (w.heap.size + 1) 70 5 out done.length (done.flatMap Mac.cells) ∧ Below (w.heap.size + 1) (w.alloc (Obj.cells #[.int .i64 0, .int .i64 0] 27)) wr ∧ (macsAll (bs.drop j)).map (fun l => done ++ l) = macsAll bs)
    case atStart => exact ⟨[], 0, rfl, rfl, by omega, by simp, World.ownsRow_nil _ _ _ _, Below.refl _ _, by simp⟩
    case round =>
      obtain ⟨done, j, rfl, rfl, hj, hlen2, hown, hbel, hq⟩ := hrel
      have Hq := Lib.hid hq
      have Hbel := Lib.hid hbel
      have Hown := Lib.hid hown
      have hz := hbel.size
      simp at hz
      have d0 : wr.cell? ⟨w.heap.size, 0, none⟩ = some (.int .i64 0) := by rw [hbel.cell (by simp)]; simp
      have d1 : wr.cell? ⟨w.heap.size, 1, none⟩ = some (.int .i64 0) := by rw [hbel.cell (by simp)]; simp
      have e0 : wr.frozen? ⟨w.heap.size, 0, none⟩ = false := by rw [hbel.frozen (by simp)]; simp
      have e1 : wr.frozen? ⟨w.heap.size, 1, none⟩ = false := by rw [hbel.frozen (by simp)]; simp
      have j0 : (0 : Int) ≤ (j : Int) := Int.natCast_nonneg _
      have HSr := Lib.hid (Hs.out.up (HF.out _ hbel) (HF.out _ hbel).size)
      clear hq hbel hown
      by_cases hlt : j < bs.length
      · have hji : (j : Int) < (bs.length : Int) := by omega
        go_wp2_with fail
        refine ReadMac_calls _ bs j _ HSr.out hlt (by omega) _ (fun m r hmac w1 hb1 => ?_) (fun hmac w1 m hb1 => ?_)
        · obtain ⟨i, hpl, rfl, hi1, hi2⟩ := macL_at hmac
          rw [hpl]
          have hq1 := macs_some Hq.out hmac
          have hown1 := Hown.out.kept (⟨hb1.os, hb1.tape, hb1.output, hb1.size, fun k hk _ => hb1.block k hk⟩ : wr.grownBy w1 none) (by cases hv : Value.ownBlock _ <;> simp)
          have hbel1 : Below (w.heap.size + 1) (w.alloc (Obj.cells #[.int .i64 0, .int .i64 0] 27)) w1 := Hbel.out.trans (hb1.mono (by omega))
          have hz1 := hb1.size
          have Hq1 := Lib.hid hq1
          have Hbel1 := Lib.hid hbel1
          have i0' : (0 : Int) ≤ (i : Int) := Int.natCast_nonneg _
          have hin : ¬ (i : Int) < 0 := by omega
          rw [show m.arr = #[.int .i64 m.op, .int .i64 m.dst, .int .i64 m.a, .int .i64 m.b, .int .i64 m.n] from rfl]
          clear hq1 hbel1 hmac d0 d1 e0 e1 hb1 hpl
          obtain ⟨A5, c5, rfl⟩ := own_slice hown1
          go_wp2_with (at_builtin; refine wpList_append_own _ rfl _ _ 66 rfl (w.heap.size + 1) 70 i0 _ 5 40 Tryd.underlying66 hi iz0 iz1 iz2 rfl (by decide) (.slice A5 done.length c5) done.length (done.flatMap Mac.cells) rfl ((hown1.alloc _).alloc _) ⟨w1.heap.size + 1, 0, none⟩ 1 1 [.int .i64 m.op, .int .i64 m.dst, .int .i64 m.a, .int .i64 m.b, .int .i64 m.n] rfl rfl ?_ ?_ ?_ ?_ ?_ ?_)
          any_goals first | exact World.news_of_block (cs := #[.int .i64 m.op, .int .i64 m.dst, .int .i64 m.a, .int .i64 m.b, .int .i64 m.n]) (t := 70) (fr := (0, 0)) (by have := heap_alloc_new (w1.alloc (Obj.cells #[.int .i64 m.op, .int .i64 m.dst, .int .i64 m.a, .int .i64 m.b, .int .i64 m.n] 70)) (Obj.cells #[.int .i64 m.op, .int .i64 m.dst, .int .i64 m.a, .int .i64 m.b, .int .i64 m.n] 70); simpa using this) | (simp [Value.oneCell']; done) | (unfold maxLen; omega) | omega | (simp; done) | (simp; omega)
          · intro v' w2 hown2 hgrow _
            have hgr : ∀ k, (Value.slice A5 done.length c5).ownBlock = some k → w.heap.size + 1 ≤ k := fun k hk => (hown1.lt k hk).1
            have hb12 : Below (w.heap.size + 1) w1 w2 := (((Below.refl _ w1).alloc (by omega) (Obj.cells #[.int .i64 m.op, .int .i64 m.dst, .int .i64 m.a, .int .i64 m.b, .int .i64 m.n] 70)).alloc (by simp; omega) (Obj.cells #[.int .i64 m.op, .int .i64 m.dst, .int .i64 m.a, .int .i64 m.b, .int .i64 m.n] 70)).grown hgrow (by simp; omega) hgr
            have H1 := Lib.hid (And.intro hown2 (Hbel1.out.trans hb12))
            clear hown1 hown2 hgrow hgr hb12
            go_wp2
            go_roundg (bs.length - i)
            case measure => omega
            case rel => exact ⟨done ++ [m], i, rfl, rfl, hi2, by simp; omega, by simpa [Mac.cells] using H1.out.1, H1.out.2, Hq1.out⟩
        · have hno := Lib.hid (Hnone.out (macs_none Hq.out (by intro h; have := congrArg List.length h; simp at this; omega) hmac))
          have hz1 := hb1.size
          have hbel1 : Below (w.heap.size + 1) (w.alloc (Obj.cells #[.int .i64 0, .int .i64 0] 27)) w1 := Hbel.out.trans (hb1.mono (by omega))
          have f0 : w1.cell? ⟨w.heap.size, 0, none⟩ = some (.int .i64 0) := by rw [hbel1.cell (by simp)]; simp
          have f1 : w1.cell? ⟨w.heap.size, 1, none⟩ = some (.int .i64 0) := by rw [hbel1.cell (by simp)]; simp
          have g0 : w1.frozen? ⟨w.heap.size, 0, none⟩ = false := by rw [hbel1.frozen (by simp)]; simp
          have g1 : w1.frozen? ⟨w.heap.size, 1, none⟩ = false := by rw [hbel1.frozen (by simp)]; simp
          have Hbel1 := Lib.hid hbel1
          have hpw : w.heap.size < w1.heap.size := by omega
          rw [show m.arr = #[.int .i64 m.op, .int .i64 m.dst, .int .i64 m.a, .int .i64 m.b, .int .i64 m.n] from rfl]
          clear hbel1 hmac d0 d1 e0 e1 hb1
          go_wp2
          have hbel1 := Hbel1.out
          refine bodyPost_ret (v := .tuple #[.slice none 0 0, (.agg #[.int .i64 ((1, (j : Int))).1, .int .i64 ((1, (j : Int))).2])]) (res_slice_Fault (by rfl) (by rfl) (by rfl) (cells_alloc2 (cells_set2 (a := w.alloc (Obj.cells #[Value.int IntKind.i64 0, Value.int IntKind.i64 0] 27)) (B := w.heap.size + 1) hbel1 (Nat.lt_succ_self _) (by simp; rfl) (by simp; rfl) _ _) _)) rfl ?_
          have hb3 := HF.out _ hbel1
          have hb4 := hb3.setCell (p := ⟨w.heap.size, 0, none⟩) (Nat.le_refl _) (.int .i64 1)
          have hb5 := hb4.setCell (p := ⟨w.heap.size, 1, none⟩) (Nat.le_refl _) (.int .i64 (j : Int))
          exact hno.out _ 1 _ (by decide) (hb5.alloc (Nat.le_trans (Nat.le_of_lt hpw) (by simp [World.setCell])) _)
      · obtain rfl : j = bs.length := by omega
        have hq2 := Hq.out
        rw [List.drop_length] at hq2
        have hrl := macs_end hq2 (by omega)
        have hsl2 := SLMac_own Hown.out (Nat.le_refl _)
        have Hrl := Lib.hid hrl
        clear hrl hq2
        go_wp2_with fail
        refine RefMacCheck_calls _ done _ hsl2 _ (fun w1 hb1 => ?_)
        have hbel2 : Below (w.heap.size + 1) (w.alloc (Obj.cells #[.int .i64 0, .int .i64 0] 27)) w1 := Hbel.out.trans (hb1.mono (by omega))
        have f0 : w1.cell? ⟨w.heap.size, 0, none⟩ = some (.int .i64 0) := by rw [hbel2.cell (by simp)]; simp
        have f1 : w1.cell? ⟨w.heap.size, 1, none⟩ = some (.int .i64 0) := by rw [hbel2.cell (by simp)]; simp
        have g0 : w1.frozen? ⟨w.heap.size, 0, none⟩ = false := by rw [hbel2.frozen (by simp)]; simp
        have g1 : w1.frozen? ⟨w.heap.size, 1, none⟩ = false := by rw [hbel2.frozen (by simp)]; simp
        have hz1 := hb1.size
        have hpw : w.heap.size < w1.heap.size := by omega
        have Hbel2 := Lib.hid hbel2
        have hown1 := Hown.out.kept (⟨hb1.os, hb1.tape, hb1.output, hb1.size, fun k hk _ => hb1.block k hk⟩ : wr.grownBy w1 none) (by cases hv : Value.ownBlock _ <;> simp)
        have Hown1 := Lib.hid hown1
        have hmz := macsFault_zero done
        generalize macsFault done = F at *
        obtain ⟨c, a⟩ := F
        simp only [] at hmz ⊢
        clear hbel2 d0 d1 e0 e1 hb1 hsl2 hown1
        by_cases hc : c = 0
        · have hca := hmz hc
          simp only [Prod.mk.injEq] at hca
          obtain ⟨rfl, rfl⟩ := hca
          have hso := Hsome.out done (by rw [Hrl.out, if_pos rfl])
          have Hso := Lib.hid hso
          clear hso hmz hc
          go_wp2
          refine bodyPost_ret (v := .tuple #[u4, (.agg #[.int .i64 ((0, 0)).1, .int .i64 ((0, 0)).2])]) (res_slice_Fault (by rfl) (by rfl) (by rfl) (cells_alloc2 (cells_set2 (a := w.alloc (Obj.cells #[Value.int IntKind.i64 0, Value.int IntKind.i64 0] 27)) (B := w.heap.size + 1) Hbel2.out (Nat.lt_succ_self _) (by simp; rfl) (by simp; rfl) _ _) _)) rfl ?_
          have hb3 := HF.out _ Hbel2.out
          have hb4 := hb3.setCell (p := ⟨w.heap.size, 0, none⟩) (Nat.le_refl _) (.int .i64 0)
          have hb5 := hb4.setCell (p := ⟨w.heap.size, 1, none⟩) (Nat.le_refl _) (.int .i64 0)
          have hw1 := ownsRow_setCell_below (ownsRow_setCell_below Hown1.out (a := ⟨w.heap.size, 0, none⟩) (Nat.lt_succ_self w.heap.size) (.int .i64 0)) (a := ⟨w.heap.size, 1, none⟩) (Nat.lt_succ_self w.heap.size) (.int .i64 0)
          exact Hso.out _ _ (hb5.alloc (Nat.le_trans (Nat.le_of_lt hpw) (by simp [World.setCell])) _) (SLMac_own (hw1.alloc _) (Nat.le_refl _))
        · have hno := Lib.hid (Hnone.out (by rw [Hrl.out, if_neg (by simp [hc])]))
          have hcn : (c != 0) = true := by simp [hc]
          have Hc := Lib.hid hc
          clear hmz hc
          go_wp2
          go_region
          go_wp2
          refine bodyPost_ret (v := .tuple #[.slice none 0 0, (.agg #[.int .i64 ((c, a)).1, .int .i64 ((c, a)).2])]) (res_slice_Fault (by rfl) (by rfl) (by rfl) (cells_alloc2 (cells_set2 (a := w.alloc (Obj.cells #[Value.int IntKind.i64 0, Value.int IntKind.i64 0] 27)) (B := w.heap.size + 1) Hbel2.out (Nat.lt_succ_self _) (by simp; rfl) (by simp; rfl) _ _) _)) rfl ?_
          have hb3 := HF.out _ Hbel2.out
          have hb4 := hb3.setCell (p := ⟨w.heap.size, 0, none⟩) (Nat.le_refl _) (.int .i64 c)
          have hb5 := hb4.setCell (p := ⟨w.heap.size, 1, none⟩) (Nat.le_refl _) (.int .i64 a)
          exact hno.out _ c a Hc.out (Below.drew (hb5.alloc (Nat.le_trans (Nat.le_of_lt hpw) (by simp [World.setCell])) _))
end Go.Proofs.YtkodcoianakjoaaDoor
