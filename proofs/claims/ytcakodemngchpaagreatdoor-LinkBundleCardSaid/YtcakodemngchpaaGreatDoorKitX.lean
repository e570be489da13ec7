/- turnerykit.CodeOf: instructions of raw numbers. Digits of a small number; the globals of a small memory; an instruction's bytes. -/
import Derived.Test.YtcakodemngchpaaGreatDoorBase
import Derived.Test.YtcakodemngchpaaGreatDoorRows
import Derived.IntWalk
import Derived.Deep.LoopGhost
import Derived.Deep.CutBlock
import Derived.Deep.DeepCutAuto
import Derived.Outline
import Derived.Test.YtcakodemngchpaaGreatDoorKitW
import Derived.Test.YtcakodemngchpaaGreatDoorAppA
import Derived.Test.YtcakodemngchpaaGreatDoorSaveA
/- turnerykit.CodeOf: instructions of raw numbers. -/
namespace Go.Proofs.YtcakodemngchpaaGreatDoor
open Go.RowKit
set_option linter.unusedSimpArgs false
set_option linter.unusedVariables false

theorem getD_mem {α : Type} {l : List α} {k : Nat} {d : α} (h : k < l.length) : l.getD k d ∈ l := by
  rw [List.getD_eq_getElem?_getD, List.getElem?_eq_getElem h]
  exact List.getElem_mem h

set_option maxRecDepth 100000 in
set_option maxHeartbeats 4000000 in
theorem CodeOf_calls (l : List Int) (v : Value) (n r : Nat) (w : World) (h : rpInt.SL w w.heap.size l v) (hl : ∀ x ∈ l, I64 x) (hn : n ≤ 1000) (hr : r ≤ 1000) (R : Ending → World → Prop)
    (hR : ∀ w' v', Below w.heap.size w w' → w'.ownsRow w.heap.size 54 5 v' (codeOf l n r).length ((codeOf l n r).flatMap Mac.cells) → R (.returned v') w') :
    Calls Tryz.prog 27 #[v, .int .i64 (n : Int), .int .i64 (r : Int)] w R := by
  obtain ⟨A, c, rfl, hm, hcap, h⟩ := h.cases_
  obtain ⟨i0, hi, hz0, hz1, hz2⟩ := info_parts info_Mac
  have HR := Lib.hid hR
  have H := Lib.hid h
  have Hl := Lib.hid hl
  clear hR h hl
  obtain ⟨M, hM⟩ : ∃ M, M = codeMany l n := ⟨_, rfl⟩
  have HM := Lib.hid hM
  have hM1 : M ≤ 1000 := by rw [hM]; unfold codeMany; omega
  have hM3 : 3 * M ≤ l.length := by rw [hM]; unfold codeMany; omega
  have hmin : (M : Int) = if (n : Int) < (l.length : Int) / 3 then (n : Int) else (l.length : Int) / 3 := by
    rw [hM]
    unfold codeMany
    split <;> omega
  have Hmin := Lib.hid hmin
  have hlen0 : (0 : Int) ≤ (l.length : Int) / 3 := by omega
  clear hM hmin
  go_enter Tryz.func27, Tryz.ntmps27
  go_upto_if 15 with fail
  go_cut [7] (fun s7 wx => s7 = .int .i64 (M : Int) ∧ wx = w)
  case first =>
    by_cases hlt : (n : Int) < (l.length : Int) / 3
    · have hv := Hmin.out
      rw [if_pos hlt] at hv
      have Hv := Lib.hid hv
      clear hv
      go_wp2
      go_meet
      exact ⟨by rw [Hv.out], rfl⟩
    · have hv := Hmin.out
      rw [if_neg hlt] at hv
      have Hv := Lib.hid hv
      clear hv
      go_wp2
      go_meet
      exact ⟨by rw [Hv.out], rfl⟩
  case rest =>
    obtain ⟨rfl, rfl⟩ := hcut
    go_wp2_with fail
    go_loopg [8, 9] M (fun gh s8 i wr => ∃ k : Nat, k ≤ M ∧ gh = M - k ∧ i = .int .i64 (k : Int) ∧ wr.ownsRow wc.heap.size 54 5 s8 k (((List.range k).map (macAt l (M + 1) r)).flatMap Mac.cells) ∧ Below wc.heap.size wc wr)
    case atStart => exact ⟨0, Nat.zero_le _, rfl, rfl, World.ownsRow_nil _ _ _ _, Below.refl _ _⟩
    case round =>
      obtain ⟨k, hk, rfl, rfl, hown, hbel⟩ := hrel
      have hzz := hbel.size
      obtain ⟨A8, c8, rfl⟩ := own_slice hown
      have Hown := Lib.hid hown
      have Hbel := Lib.hid hbel
      clear hown hbel
      by_cases hlt : k < M
      · have hk3 : 3 * k + 2 < l.length := by omega
        obtain ⟨b, off, rfl, hb, q0⟩ := H.out.int_at (k := 3 * k) (by omega)
        obtain ⟨b', off', e', hb', q1⟩ := H.out.int_at (k := 3 * k + 1) (by omega)
        obtain ⟨b'', off'', e'', hb'', q2⟩ := H.out.int_at (k := 3 * k + 2) (by omega)
        cases e'
        cases e''
        have m0 := Hl.out (l.getD (3 * k) 0) (getD_mem (by omega))
        have m1 := Hl.out (l.getD (3 * k + 1) 0) (getD_mem (by omega))
        have m2 := Hl.out (l.getD (3 * k + 2) 0) (getD_mem (by omega))
        have hst : (List.range (k + 1)).map (macAt l (M + 1) r) = (List.range k).map (macAt l (M + 1) r) ++ [macOf (l.getD (3 * k) 0) (l.getD (3 * k + 1) 0) (l.getD (3 * k + 2) 0) (M + 1) r] := by
          rw [List.range_succ, List.map_append]
          rfl
        have Hst := Lib.hid hst
        have M0 := Lib.hid m0
        have M1 := Lib.hid m1
        have M2 := Lib.hid m2
        have HSS : Hid (∀ W, Below wc.heap.size wc W → (fun W : World => W.cell? ⟨b, off + 3 * k, none⟩ = some (.int .i64 (l.getD (3 * k) 0)) ∧ W.cell? ⟨b, off + (3 * k + 1), none⟩ = some (.int .i64 (l.getD (3 * k + 1) 0)) ∧ W.cell? ⟨b, off + (3 * k + 2), none⟩ = some (.int .i64 (l.getD (3 * k + 2) 0))) W) := Lib.hid fun W h =>
          ⟨(h.cell (p := ⟨b, off + 3 * k, none⟩) hb).trans q0, (h.cell (p := ⟨b, off + (3 * k + 1), none⟩) hb).trans q1, (h.cell (p := ⟨b, off + (3 * k + 2), none⟩) hb).trans q2⟩
        have hS0 := HSS.out wr Hbel.out
        have hS1 := HSS.out wr.drew Hbel.out.drew
        clear q0 q1 q2 m0 m1 m2 hst
        generalize l.getD (3 * k) 0 = x0 at *
        generalize l.getD (3 * k + 1) 0 = x1 at *
        generalize l.getD (3 * k + 2) 0 = x2 at *
        have i1 : (0 : Int) ≤ (k : Int) := Int.natCast_nonneg _
        have i2 : (k : Int) < (M : Int) := by omega
        have i3 : IntKind.i64.wrap (3 * (k : Int)) = 3 * (k : Int) := IntWalk.i64_in _ (by omega)
        have i4 : IntKind.i64.wrap (3 * (k : Int) + 1) = 3 * (k : Int) + 1 := IntWalk.i64_in _ (by omega)
        have i5 : IntKind.i64.wrap (3 * (k : Int) + 2) = 3 * (k : Int) + 2 := IntWalk.i64_in _ (by omega)
        have i6 : IntKind.i64.wrap ((M : Int) + 1) = (M : Int) + 1 := IntWalk.i64_in _ (by omega)
        have j3 : (0 : Int) ≤ 3 * (k : Int) := by omega
        have j4 : (0 : Int) ≤ 3 * (k : Int) + 1 := by omega
        have j5 : (0 : Int) ≤ 3 * (k : Int) + 2 := by omega
        have l3 : 3 * (k : Int) < (l.length : Int) := by omega
        have l4 : 3 * (k : Int) + 1 < (l.length : Int) := by omega
        have l5 : 3 * (k : Int) + 2 < (l.length : Int) := by omega
        have t3 : (3 * (k : Int)).toNat = 3 * k := by omega
        have t4 : (3 * (k : Int) + 1).toNat = 3 * k + 1 := by omega
        have t5 : (3 * (k : Int) + 2).toNat = 3 * k + 2 := by omega
        obtain ⟨mm, hmm⟩ : ∃ mm, mm = macOf x0 x1 x2 (M + 1) r := ⟨_, rfl⟩
        have HMm := Lib.hid hmm
        clear hmm
        have HMc : Hid (∀ (W : World) (R : Ending → World → Prop), (∀ w', Below W.heap.size W w' → R (.returned (.agg #[.int .i64 mm.op, .int .i64 mm.dst, .int .i64 mm.a, .int .i64 mm.b, .int .i64 mm.n])) w') → Calls Tryz.prog 52 #[.int .i64 x0, .int .i64 x1, .int .i64 x2, .int .i64 ((M : Int) + 1), .int .i64 (r : Int)] W R) := Lib.hid fun W R h => by
          have := MacOf_calls x0 x1 x2 (M + 1) r M0.out M1.out M2.out (by omega) (by omega) (by omega) W R (by rw [← HMm.out]; exact h)
          simpa using this
        go_upto_region 8 with fail
        go_region_held3 (fun W : World => W.cell? ⟨b, off + 3 * k, none⟩ = some (.int .i64 x0) ∧ W.cell? ⟨b, off + (3 * k + 1), none⟩ = some (.int .i64 x1) ∧ W.cell? ⟨b, off + (3 * k + 2), none⟩ = some (.int .i64 x2)) (first | with_reducible exact hS0 | with_reducible exact hS1 | with_reducible exact hS5 | with_reducible exact hS6 | with_reducible exact hS7 | with_reducible exact hS8) (first
          | (go_at_call 52; refine HMc.out _ _ ?_; intro w5 hb5; have hb6 : Below wr.heap.size wr w5 := (by first | exact hb5 | exact (Below.refl wr.heap.size wr).drew.trans hb5); have hB5 : Below wc.heap.size wc w5 := Hbel.out.trans (hb6.mono (by omega)); have hS5 := HSS.out w5 hB5; have hS6 := HSS.out _ (hB5.alloc (by have := hb6.size; omega) (Obj.cells #[.int .i64 mm.op, .int .i64 mm.dst, .int .i64 mm.a, .int .i64 mm.b, .int .i64 mm.n] 54)); have hS7 := HSS.out _ (hB5.alloc (by have := hb6.size; omega) (Obj.cells #[.int .i64 mm.op, .int .i64 mm.dst, .int .i64 mm.a, .int .i64 mm.b, .int .i64 mm.n] 54)).drew; have hW5 : Hid ((w5.alloc (Obj.cells #[.int .i64 mm.op, .int .i64 mm.dst, .int .i64 mm.a, .int .i64 mm.b, .int .i64 mm.n] 54)).ownsRow wc.heap.size 54 5 (.slice A8 k c8) k (((List.range k).map (macAt l (M + 1) r)).flatMap Mac.cells)) := Lib.hid ((ownsRow_below Hown.out hb6 (Nat.le_refl _)).alloc _); have HB5 := Lib.hid hB5; have hz5 := hb6.size; clear hb5 hb6 hB5)
          | (refine step_append_own rfl (.tmp 22) (.tmp 44) _ rfl wc.heap.size 54 i0 _ 5 40 Tryz.underlying55 hi hz0 hz1 hz2 rfl (by decide) (.slice A8 k c8) k (((List.range k).map (macAt l (M + 1) r)).flatMap Mac.cells) (by simp [Act.eval, Act.put]) (by first | exact hW5.out | exact hW5.out.drew) ⟨w5.heap.size, 0, none⟩ 1 1 [.int .i64 mm.op, .int .i64 mm.dst, .int .i64 mm.a, .int .i64 mm.b, .int .i64 mm.n] (by simp [Act.eval, Act.put]) rfl (by first | exact World.news_of_block (cs := #[.int .i64 mm.op, .int .i64 mm.dst, .int .i64 mm.a, .int .i64 mm.b, .int .i64 mm.n]) (t := 54) (fr := (0, 0)) (heap_alloc_new _ _) | exact World.news_of_block (cs := #[.int .i64 mm.op, .int .i64 mm.dst, .int .i64 mm.a, .int .i64 mm.b, .int .i64 mm.n]) (t := 54) (fr := (0, 0)) (blk_drew (heap_alloc_new _ _))) (by simp [Value.oneCell']) (by unfold maxLen; omega) (by omega) (by first | (simp; omega) | (show wc.heap.size ≤ (w5.alloc _).heap.size; simp; omega)) ?_; intro v7 w7 hown7 hgrow7 _; have hB7 : Below wc.heap.size wc w7 := (by first | exact (HB5.out.alloc (show wc.heap.size ≤ w5.heap.size by omega) _).grown hgrow7 (by simp; omega) (fun j hj => (Hown.out.lt j hj).1) | exact ((HB5.out.alloc (show wc.heap.size ≤ w5.heap.size by omega) _).drew).grown hgrow7 (show wc.heap.size ≤ (w5.alloc _).heap.size by simp; omega) (fun j hj => (Hown.out.lt j hj).1)); have hS8 := HSS.out w7 hB7; have HB7 := Lib.hid hB7; have Hown7 := Lib.hid hown7; clear hown7 hgrow7 hB7))
        all_goals
          go_wp2
          go_roundg (M - (k + 1))
          case measure => omega
          case rel =>
            refine ⟨k + 1, hlt, rfl, by go_num, ?_, HB7.out⟩
            rw [Hst.out, ← HMm.out, List.flatMap_append]
            simpa [Mac.cells] using Hown7.out
      · obtain rfl : k = M := by omega
        have hW : Hid ((wr.alloc (Obj.cells #[.int .i64 45, .int .i64 0, .int .i64 0, .int .i64 0, .int .i64 0] 54)).ownsRow wc.heap.size 54 5 (.slice A8 k c8) k (((List.range k).map (macAt l (k + 1) r)).flatMap Mac.cells)) := Lib.hid (Hown.out.alloc _)
        have hcode : codeOf l n r = (List.range k).map (macAt l (k + 1) r) ++ [⟨45, 0, 0, 0, 0⟩] := by
          unfold codeOf
          rw [← HM.out]
        have Hcode := Lib.hid hcode
        clear hcode
        go_wp2_with (at_builtin; refine wpList_append_own _ rfl _ _ 55 rfl wc.heap.size 54 i0 _ 5 40 Tryz.underlying55 hi hz0 hz1 hz2 rfl (by decide) (.slice A8 k c8) k (((List.range k).map (macAt l (k + 1) r)).flatMap Mac.cells) rfl hW.out ⟨wr.heap.size, 0, none⟩ 1 1 [.int .i64 45, .int .i64 0, .int .i64 0, .int .i64 0, .int .i64 0] rfl rfl ?_ ?_ ?_ ?_ ?_ ?_)
        any_goals (first | exact World.news_of_block (cs := #[.int .i64 45, .int .i64 0, .int .i64 0, .int .i64 0, .int .i64 0]) (t := 54) (fr := (0, 0)) (heap_alloc_new _ _) | (simp [Value.oneCell']; done) | (unfold maxLen; omega) | omega | (simp; done) | (simp; omega))
        intro v' w2 hown2 hgrow2 _
        have hb2 := (Hbel.out.alloc (by omega) (Obj.cells #[.int .i64 45, .int .i64 0, .int .i64 0, .int .i64 0, .int .i64 0] 54)).grown hgrow2 (by simp; omega) (fun j hj => (Hown.out.lt j hj).1)
        have hfin := HR.out w2 v' hb2 (by
          rw [Hcode.out]
          simpa [Mac.cells] using hown2)
        have Hfin := Lib.hid hfin
        clear hfin hown2 hgrow2 hb2
        go_wp2
        exact Hfin.out
end Go.Proofs.YtcakodemngchpaaGreatDoor

/- Digits of a small number; the globals of a small memory; an instruction's bytes. -/
namespace Go.Proofs.YtcakodemngchpaaGreatDoor
open Go.RowKit
set_option linter.unusedSimpArgs false
set_option linter.unusedVariables false

def digitS (n : Nat) : ByteArray := ⟨#[UInt8.ofNat (48 + n)]⟩
theorem digit_cut (n : Nat) (hn : n < 10) : (⟨#[48, 49, 50, 51, 52, 53, 54, 55, 56, 57]⟩ : ByteArray).extract n (n + 1) = digitS n := by
  match n, hn with
  | 0, _ => rfl
  | 1, _ => rfl
  | 2, _ => rfl
  | 3, _ => rfl
  | 4, _ => rfl
  | 5, _ => rfl
  | 6, _ => rfl
  | 7, _ => rfl
  | 8, _ => rfl
  | 9, _ => rfl
set_option maxRecDepth 100000 in
set_option maxHeartbeats 4000000 in
theorem Digits_calls (n : Nat) (hn : n < 10) (w : World) (R : Ending → World → Prop) (hR : R (.returned (.string (digitS n))) w) :
    Calls Tryz.prog 26 #[.int .i64 (n : Int)] w R := by
  have HR := Lib.hid hR
  clear hR
  have i0 : ¬ (n : Int) < 0 := by omega
  have i1 : (n : Int) < 10 := by omega
  have i2 : (0 : Int) ≤ (n : Int) := by omega
  go_enter Tryz.func26, Tryz.ntmps26
  go_wp2
  rw [digit_cut n hn]
  exact HR.out

def kitGlobals : List Global := [⟨⟨#[103]⟩, 2, [5]⟩, ⟨⟨#[104]⟩, 1, []⟩]
set_option maxRecDepth 100000 in
set_option maxHeartbeats 4000000 in
theorem KitGlobals_calls (w : World) (R : Ending → World → Prop)
    (hR : ∀ w' v', Below w.heap.size w w' → rpGlobal.SLF w' w.heap.size w'.heap.size kitGlobals v' → R (.returned v') w') :
    Calls Tryz.prog 25 #[] w R := by
  have HR := Lib.hid hR
  clear hR
  go_enter Tryz.func25, Tryz.ntmps25
  go_wp2
  refine HR.out _ _ bl0 ?_
  obtain ⟨W, hW⟩ : ∃ W, W = (w.alloc (Obj.cells #[.int .i64 5] 3)).alloc (Obj.cells #[.string ⟨#[103]⟩, .int .i64 2, .slice (some ⟨w.heap.size, 0, none⟩) 1 1, .string ⟨#[104]⟩, .int .i64 1, .slice none 0 0] 118) := ⟨_, rfl⟩
  rw [← hW]
  have hz : W.heap.size = w.heap.size + 2 := by subst hW; simp
  have h0 : W.heap[w.heap.size]? = some (.cells #[.int .i64 5] 3 (0, 0)) := by subst hW; exact blk_alloc (heap_alloc_new _ _) _
  have h1 : W.heap[w.heap.size + 1]? = some (.cells #[.string ⟨#[103]⟩, .int .i64 2, .slice (some ⟨w.heap.size, 0, none⟩) 1 1, .string ⟨#[104]⟩, .int .i64 1, .slice none 0 0] 118 (0, 0)) := by
    subst hW
    have := heap_alloc_new (w.alloc (Obj.cells #[.int .i64 5] 3)) (Obj.cells #[.string ⟨#[103]⟩, .int .i64 2, .slice (some ⟨w.heap.size, 0, none⟩) 1 1, .string ⟨#[104]⟩, .int .i64 1, .slice none 0 0] 118)
    simpa using this
  have hc0 : ∀ j, (only W fun k => decide (w.heap.size ≤ k)).cell? ⟨w.heap.size, j, none⟩ = W.cell? ⟨w.heap.size, j, none⟩ := fun j => only_cell_of _ _ _ (by simp)
  have hc1 : ∀ j, (only W fun k => decide (w.heap.size ≤ k)).cell? ⟨w.heap.size + 1, j, none⟩ = W.cell? ⟨w.heap.size + 1, j, none⟩ := fun j => only_cell_of _ _ _ (by simp)
  have hin : rpInt.SL (only W fun k => decide (w.heap.size ≤ k)) W.heap.size [5] (.slice (some ⟨w.heap.size, 0, none⟩) 1 1) := by
    refine ⟨_, 1, rfl, by decide, Nat.le_refl _, fun _ => ⟨w.heap.size, 0, rfl, by omega, fun k x hx => ?_⟩⟩
    rcases k with _ | k
    · simp at hx
      subst hx
      refine ⟨_, rfl, fun j u hj => ?_⟩
      rcases j with _ | j
      · simp at hj
        subst hj
        rw [hc0]
        simp [World.cell?, h0]
      · simp at hj
    · simp at hx
  refine ⟨_, 2, rfl, by decide, Nat.le_refl _, fun _ => ⟨w.heap.size + 1, 0, rfl, by omega, fun k x hx => ?_⟩⟩
  rcases k with _ | _ | k
  · simp [kitGlobals] at hx
    subst hx
    refine ⟨_, rpGlobal_mk hin, fun j u hj => ?_⟩
    rcases j with _ | _ | _ | j
    all_goals first
      | (simp at hj; subst hj; rw [hc1]; simp [World.cell?, h1]; done)
      | simp at hj
  · simp [kitGlobals] at hx
    subst hx
    refine ⟨_, rpGlobal_mk (Rp.SL.nil _ _ _), fun j u hj => ?_⟩
    rcases j with _ | _ | _ | j
    all_goals first
      | (simp at hj; subst hj; rw [hc1]; simp [World.cell?, h1, rpGlobal_size]; done)
      | simp at hj
  · simp [kitGlobals] at hx
end Go.Proofs.YtcakodemngchpaaGreatDoor
