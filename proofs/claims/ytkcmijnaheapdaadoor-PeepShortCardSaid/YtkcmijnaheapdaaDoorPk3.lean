/- Package mac: live registers, listed. -/
import Derived.Test.YtkcmijnaheapdaaDoorBase
import Derived.Test.YtkcmijnaheapdaaDoorRows
import Derived.IntWalk
import Derived.Outline
import Derived.Deep.LoopGhost
import Derived.Deep.AppendLies
import Derived.Deep.CutBlock
import Derived.Deep.DeepCutAuto
import Derived.Test.YtkcmijnaheapdaaDoorPk2
import Derived.Test.YtkcmijnaheapdaaDoorAppA
import Derived.Test.YtkcmijnaheapdaaDoorReadC
namespace Go.Proofs.YtkcmijnaheapdaaDoor
open Go.RowKit
set_option linter.unusedSimpArgs false
set_option linter.unusedVariables false

theorem macsFrom_iff {l : List Mac} : ∀ (m i : Nat), i + m = l.length → (macsFrom l m i = (0, 0) ↔ (∀ k, i ≤ k → k < l.length → macF (atL l k) l.length = 0) ∧ ((atL l (l.length - 1)).op = 37 ∨ (atL l (l.length - 1)).op = 45))
  | 0, i, h => by
    rw [macsFrom]
    by_cases hl : (l.getD (l.length - 1) ⟨0, 0, 0, 0, 0⟩).op = 37 ∨ (l.getD (l.length - 1) ⟨0, 0, 0, 0, 0⟩).op = 45
    · rw [if_pos hl]
      exact ⟨fun _ => ⟨fun k h1 h2 => by omega, hl⟩, fun _ => rfl⟩
    · rw [if_neg hl]
      constructor
      · intro e
        injection e with e
        omega
      · intro e
        exact absurd e.2 hl
  | m + 1, i, h => by
    rw [macsFrom]
    by_cases hf : macF (l.getD i ⟨0, 0, 0, 0, 0⟩) l.length ≠ 0
    · rw [if_pos hf]
      constructor
      · intro e
        injection e with e
        exact absurd e hf
      · intro e
        exact absurd (e.1 i (Nat.le_refl _) (by omega)) hf
    · rw [if_neg hf, macsFrom_iff m (i + 1) (by omega)]
      have hf' : macF (atL l i) l.length = 0 := Decidable.of_not_not hf
      constructor
      · rintro ⟨h1, h2⟩
        refine ⟨fun k hk hl => ?_, h2⟩
        by_cases e : k = i
        · subst e; exact hf'
        · exact h1 k (by omega) hl
      · rintro ⟨h1, h2⟩
        exact ⟨fun k hk hl => h1 k (by omega) hl, h2⟩
theorem macsOk_iff {l : List Mac} : macsFault l = (0, 0) ↔ MacsOk l := by
  unfold macsFault
  by_cases h1 : 5000 < l.length
  · rw [if_pos h1]
    constructor
    · intro e
      injection e with e
      omega
    · intro e
      have := e.few
      omega
  rw [if_neg h1]
  by_cases h2 : l = []
  · rw [if_pos h2]
    constructor
    · intro e
      injection e with e
      omega
    · intro e
      have := e.some_
      rw [h2] at this
      simp at this
  rw [if_neg h2, macsFrom_iff l.length 0 (by omega)]
  constructor
  · rintro ⟨h3, h4⟩
    refine ⟨List.length_pos_iff.2 h2, by omega, fun m hm => ?_, h4⟩
    obtain ⟨k, hk, e⟩ := in_atL hm
    rw [← e]
    exact h3 k (Nat.zero_le _) hk
  · intro h
    exact ⟨fun k _ hk => h.fine _ (atL_in hk), h.last⟩

noncomputable def liveRow (l : List Mac) (i : Nat) : List Int := ((List.range 16).filter (fun r => liveB l i r)).map Int.ofNat
noncomputable def liveTo (l : List Mac) (k : Nat) : List (List Int) := (List.range k).map (liveRow l)
noncomputable def liveL (l : List Mac) : List (List Int) := liveTo l l.length
theorem liveTo_step (l : List Mac) (k : Nat) : liveTo l (k + 1) = liveTo l k ++ [liveRow l k] := by
  unfold liveTo
  rw [List.range_succ, List.map_append]
  rfl
theorem liveTo_len (l : List Mac) (k : Nat) : (liveTo l k).length = k := by unfold liveTo; rw [List.length_map, List.length_range]
theorem bvL_live {l : List Mac} {i : Nat} {x : BitVec 64} (h : ∀ r, r < 16 → x.getLsbD r = liveB l i r) : bvL x = liveRow l i := by
  unfold bvL bvTo liveRow
  congr 1
  apply List.filter_congr
  intro r hr
  exact h r (List.mem_range.1 hr)
theorem info_ints : (Tryd.prog.info? 51).map (fun i => (i.zero, i.size, i.bytes)) = some (some (.slice none 0 0), 1, 24) := by kernel_rfl
set_option maxRecDepth 100000 in
set_option maxHeartbeats 2000000 in
theorem Live_calls (v : Value) (l : List Mac) (hok : MacsOk l) (w : World) (h : rpMac.SL w w.heap.size l v) (hS : Shapes w) (R : Ending → World → Prop)
    (hR : ∀ w' v', Below w.heap.size w w' → rpInt.slice.SLF w' w.heap.size w'.heap.size (liveL l) v' → R (.returned (.tuple #[v', .agg #[.int .i64 0, .int .i64 0]])) w') :
    Calls Tryd.prog 142 #[v] w R := by
  have h0 := hS.1
  have hfew := hok.few
  have hpos := hok.some_
  obtain ⟨iC, hiC, zC0, zC1, zC2⟩ := info_parts info_ints
  have hcode := macsOk_iff.2 hok
  have HS := Lib.hid hS
  have HR := Lib.hid hR
  have Hs := Lib.hid h
  have Hcode := Lib.hid hcode
  clear hS hR h hcode
  go_enter Tryd.func142, Tryd.ntmps142
  go_wp2_with fail
  refine Check_calls _ l _ (Hs.out.up (by exact bl0) (by simp)) (HS.out.up (by exact bl0) h0) _ ?_
  intro w1 hb1
  rw [Hcode.out]
  obtain ⟨hc1, hf1⟩ := bcell hb1
  have hz : w.heap.size < w1.heap.size := by have := hb1.size; simp at this; omega
  have hE : w1.heap[w.heap.size]? = some (.cells #[.int .i64 0, .int .i64 0] 31 (0, 0)) := (hb1.block _ (by simp)).trans (heap_alloc_new _ _)
  have Hb1 := Lib.hid (show Below w.heap.size w w1 from (by exact bl0 : Below w.heap.size w _).trans (hb1.mono (by simp)))
  have HE := Lib.hid hE
  clear hb1 hc1 hf1 hE
  go_wp2_with fail
  refine live_calls _ l hok _ (Hs.out.up (Hb1.out.trans ((by exact bl0 : Below w1.heap.size w1 _).mono Hb1.out.size)) (by simp; omega)) (HS.out.up (Hb1.out.trans ((by exact bl0 : Below w1.heap.size w1 _).mono Hb1.out.size)) h0) _ ?_
  intro w2 g V hb2 hg hblk hlen hval
  have hE2 := (hb2.block _ (by simp; omega)).trans (blk_alloc HE.out (Obj.cells #[.int .i64 0, .int .i64 0] 31))
  have Hb2 := Lib.hid (Hb1.out.trans (((by exact bl0 : Below w1.heap.size w1 (w1.alloc (Obj.cells #[.int .i64 0, .int .i64 0] 31))).trans (hb2.mono (by simp))).mono Hb1.out.size))
  have HE2 := Lib.hid hE2
  have hlE := blk_lt hE2
  have Hblk := Lib.hid hblk
  have hlG := blk_lt hblk
  have Hlive : Hid (∀ k, k < l.length → bvL (atV V k) = liveRow l k) := Lib.hid fun k hk => bvL_live fun r hr => hval k r hk hr
  have Hlen := Lib.hid hlen
  clear hE2 hblk hval hb2 HE Hb1 hlen
  go_wp2
  go_loopg [5, 17] l.length (fun gh s5 s17 wr => ∃ (k : Nat) (css : List (List Value)), k ≤ l.length ∧ gh = l.length - k ∧ s17 = .int .i64 (k : Int) ∧ Built rpInt.slice w2.heap.size 51 (fun b => b < w2.heap.size) wr s5 (liveTo l k) css ∧ Below w2.heap.size w2 wr)
  case atStart => exact ⟨0, [], Nat.zero_le _, rfl, rfl, Built.nil _ _ _ _ _ (fun _ h => h), Below.refl _ _⟩
  case round =>
    obtain ⟨k, css, hk, rfl, rfl, hbu, hbel⟩ := hrel
    have Hbu := Lib.hid hbu
    have Hbel := Lib.hid hbel
    have hz2 := hbel.size
    obtain ⟨A6, n6, hs6⟩ := own_slice hbu.own
    subst hs6
    clear hbu hbel
    by_cases hlt : k < l.length
    · have q8 : wr.cell? ⟨g, k, none⟩ = some (.int .u64 (bvI (atV V k))) := by rw [blk_cell' ((Hbel.out.block _ hlG).trans Hblk.out)]; exact setsA_get (by rw [Hlen.out]; exact hlt)
      have Hst := Lib.hid (liveTo_step l k)
      have Hll := Lib.hid (liveTo_len l k)
      have hL : bvL (atV V k) = liveRow l k := Hlive.out k hlt
      generalize liveTo l k = LT at *
      rw [Hll.out] at Hbu
      rw [Hll.out]
      have i1 : (0 : Int) ≤ (k : Int) := by omega
      have i2 : (k : Int) < (l.length : Int) := by omega
      have HL := Lib.hid hL
      clear hL
      go_wp2_with fail
      refine list_calls (atV V k) _ _ (fun w5 v5 hb5 hown5 => ?_)
      generalize bvL (atV V k) = L at *
      obtain ⟨A5, c5, rfl⟩ := own_slice hown5
      have Ho5 := Lib.hid hown5
      have hlr := Hbu.out.own.lt
      have Hlr := Lib.hid hlr
      have hz5 := hb5.size
      have HBu5 := Lib.hid ((Hbu.out.below hb5 (Nat.le_refl _)).alloc (Obj.cells #[.slice A5 L.length c5] 51))
      have Hap : Hid (Apart rpInt.slice (fun b => b < w2.heap.size) (w5.alloc (Obj.cells #[.slice A5 L.length c5] 51)) (.slice A6 k n6) L [.slice A5 L.length c5]) := Lib.hid (Apart.of_only (base := wr.heap.size) ⟨_, rfl, SLint_own (ownsRow_only (Ho5.out.alloc _)) (by rw [only_size]; exact Nat.le_refl _)⟩ (fun k (h : k < w2.heap.size) => by omega) (fun g hg => by have := (Hlr.out g hg).2; omega))
      have Hbel5 := Lib.hid (Hbel.out.trans (hb5.mono hz2))
      clear hb5 hown5 hlr q8
      have hwz5 : w2.heap.size ≤ w5.heap.size := by omega
      go_wp2_with (at_builtin; refine wpList_append_lies _ rfl _ _ 22 rfl w2.heap.size 51 iC _ 1 24 Tryd.underlying22 hiC zC0 zC1 zC2 rfl (by decide) (.slice A6 k n6) k css.flatten rfl (by have := HBu5.out.own; rw [Hll.out] at this; exact this) ⟨w5.heap.size, 0, none⟩ 1 1 [.slice A5 L.length c5] rfl rfl ?_ ?_ (by decide) ?_ ?_ ?_ _ rfl ?_)
      any_goals (first | with_reducible exact World.news_of_block (cs := #[.slice A5 L.length c5]) (t := 51) (fr := (0, 0)) (heap_alloc_new _ _) | (simp [Value.oneCell']; done) | (unfold maxLen; omega) | omega | (simp; done) | (simp; omega))
      intro gb cap w9 hown9 hgrow9 hat9 hlt9
      have HB9 := Lib.hid (HBu5.out.push hown9 (by rw [Hll.out]) hgrow9 (by simpa using hat9) Hap.out)
      have Hbel9 := Lib.hid ((Hbel5.out.alloc hwz5 _).trans ((Grew.of_grown hgrow9).below (B := w2.heap.size) (fun j hj e => by have := (Hlr.out j e).1; omega) (by simp; omega)))
      clear hown9 hgrow9 hat9 hlt9
      go_wp2
      go_roundg (l.length - (k + 1))
      case measure => omega
      case rel => exact ⟨k + 1, _, by omega, rfl, by go_num, by rw [Hst.out, ← HL.out]; exact HB9.out, Hbel9.out⟩
    · obtain rfl : k = l.length := by omega
      have HEr := Lib.hid ((Hbel.out.block _ hlE).trans HE2.out)
      obtain ⟨e0, e1⟩ := cells_blk HEr.out
      have hlr : w.heap.size < wr.heap.size := blk_lt HEr.out
      have f0 : wr.frozen? ⟨w.heap.size, 0, none⟩ = false := by simp [World.frozen?, HEr.out]
      have f1 : wr.frozen? ⟨w.heap.size, 1, none⟩ = false := by simp [World.frozen?, HEr.out]
      go_wp2
      refine bodyPost_ret (v := .tuple #[.slice A6 (liveTo l l.length).length n6, .agg #[.int .i64 0, .int .i64 0]]) (res_slice_Fault (by rfl) (by rfl) (by rfl) (cells_blk (T := 31) (by exact (blkp HEr.out)))) rfl ?_
      refine HR.out _ _ (((Hb2.out.trans (Hbel.out.mono Hb2.out.size)).setCell (p := ⟨w.heap.size, 0, none⟩) (Nat.le_refl _) _).setCell (p := ⟨w.heap.size, 1, none⟩) (Nat.le_refl _) _) (((Hbu.out.setCell ⟨w.heap.size, 0, none⟩ (by show _ < _; omega) _).setCell ⟨w.heap.size, 1, none⟩ (by show _ < _; omega) _).SLF (b := w.heap.size) (fun k hk => by show k < w2.heap.size; omega) (by omega) (Nat.le_refl _))
end Go.Proofs.YtkcmijnaheapdaaDoor
