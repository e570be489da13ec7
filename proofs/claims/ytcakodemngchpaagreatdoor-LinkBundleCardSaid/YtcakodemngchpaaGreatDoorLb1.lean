/- LinkBundle: a bundle is enough. -/
import Derived.Test.YtcakodemngchpaaGreatDoorBase
import Derived.Test.YtcakodemngchpaaGreatDoorRows
import Derived.IntWalk
import Derived.Outline
import Derived.Deep.LoopGhost
import Derived.Deep.AppendLies
import Derived.Test.YtcakodemngchpaaGreatDoorKb4
import Derived.Test.YtcakodemngchpaaGreatDoorLa1
import Derived.Test.YtcakodemngchpaaGreatDoorBunC
namespace Go.Proofs.YtcakodemngchpaaGreatDoor
open Go.RowKit
set_option linter.unusedSimpArgs false
set_option linter.unusedVariables false

def ksTo (S : List Bool) (k : Nat) : List Nat := (List.range k).filter fun i => decide (S[i]? = some true)
theorem ksTo_idxs (S : List Bool) : ∀ k, idxsTo S k = (ksTo S k).map fun i : Nat => (i : Int)
  | 0 => rfl
  | k + 1 => by
    rw [idxsTo, ksTo_idxs S k]
    unfold ksTo
    rw [List.range_succ, List.filter_append, List.map_append]
    congr 1
    by_cases h : S[k]? = some true <;> simp [h]
def ksM (S : List Bool) : List Nat := ksTo S S.length
theorem ksM_idxs (S : List Bool) : idxsM S = (ksM S).map fun i : Nat => (i : Int) := ksTo_idxs S S.length
theorem ksM_mem {S : List Bool} {k : Nat} : k ∈ ksM S ↔ S[k]? = some true := by
  unfold ksM ksTo
  rw [List.mem_filter, List.mem_range]
  constructor
  · rintro ⟨_, h⟩
    simpa using h
  · intro h
    exact ⟨(List.getElem?_eq_some_iff.1 h).1, by simpa using h⟩
theorem ksM_nodup (S : List Bool) : (ksM S).Nodup := (List.nodup_range (n := S.length)).sublist List.filter_sublist
theorem ksM_len (S : List Bool) : (ksM S).length ≤ S.length := by
  unfold ksM ksTo
  have := List.length_filter_le (fun i => decide (S[i]? = some true)) (List.range S.length)
  simpa using this
theorem pickL_take_snoc {o : Object} {ks : List Nat} {i : Nat} (h : i < ks.length) : pickL o (ks.take (i + 1)) = pickL o (ks.take i) ++ [segO o ks[i] (ks[i] + 1)] := by
  rw [List.take_succ_eq_append_getElem h]
  unfold pickL
  rw [List.map_append]
  rfl
theorem pickL_length (o : Object) (ks : List Nat) : (pickL o ks).length = ks.length := by unfold pickL; simp
set_option maxRecDepth 100000 in
set_option maxHeartbeats 8000000 in
theorem LinkBundle_calls (raw : List (List Int)) (v : Value) (w : World) (h : rpInt.slice.SL w w.heap.size raw v) (hraw : ∀ l ∈ raw, ∀ x ∈ l, I64 x) (hS : Shapes w) (R : Ending → World → Prop)
    (hR : ∀ w', Below w.heap.size w w' → R (.returned (.bool true)) w') :
    Calls Tryz.prog 3 #[v] w R := by
  have h0 := hS.1
  obtain ⟨iO, hiO, zO0, zO1, zO2⟩ := info_parts info_ObjectK
  obtain ⟨A, c, rfl, hm, hcap, h⟩ := h.cases_
  have HR := Lib.hid hR
  have H := Lib.hid h
  have Hraw := Lib.hid hraw
  have HSh := Lib.hid hS
  obtain ⟨k1, k2, k3⟩ := kit_pack hraw
  have hwide : ∀ o ∈ kitL raw, Wide o := bunL_wide (objOf_wide raw 6 true) _
  have hown : ∀ (k : Nat) s, (objOf raw 6 true).sections[k]? = some s → ownerL (kitL raw) s.name = (k : Int) := fun k s hs => bunL_owner (objOf_ok (by decide) hraw) hs
  have hkl : (kitL raw).length = (objOf raw 6 true).sections.length := bunL_len _ _
  have hk6 := kit_secs raw
  have hmain : 0 < (kitL raw).length → ownerL (kitL raw) mainB = 0 := fun hp => by
    have hs : (objOf raw 6 true).sections[0]? = some ((objOf raw 6 true).sections[0]'(by omega)) := List.getElem?_eq_getElem (by omega)
    have := hown 0 _ hs
    rw [kit_main hs] at this
    exact this
  have hsame : ∀ S, 0 < (kitL raw).length → GotM (kitL raw) [0] S → linkDo (kitL raw) = linkDo (pickL (objOf raw 6 true) (ksM S)) := fun S hp hg => need_same hraw hp hg (by have := ksM_len S; have := hg.len; omega) (ksM_nodup S) (fun k => ksM_mem)
  have hseg : ∀ (k : Nat) x, (kitL raw)[k]? = some x → x = segO (objOf raw 6 true) k (k + 1) := fun k x hx => (bunL_get hx).2
  obtain ⟨l, hl⟩ : ∃ l, l = kitL raw := ⟨_, rfl⟩
  rw [← hl] at k1 k2 k3 hwide hkl hmain hsame hseg
  obtain ⟨k4, k5⟩ := openF_some k3
  have K1 := Lib.hid k1
  have K2 := Lib.hid k2
  have K4 := Lib.hid k4
  have K5 := Lib.hid k5
  have Hwide := Lib.hid hwide
  have Hmain := Lib.hid hmain
  have Hsame := Lib.hid hsame
  have Hseg := Lib.hid hseg
  have Hl := Lib.hid hl
  have hl6 : l.length ≤ 6 := by omega
  clear hR h hraw hS k1 k2 k3 k4 k5 hwide hkl hl hown hmain hsame hseg
  go_enter Tryz.func3, Tryz.ntmps3
  go_wp2_with fail
  refine bundled_calls raw _ _ H.out Hraw.out _ (fun w1 v1 hb1 hs1 => ?_)
  rw [← Hl.out] at hs1
  obtain ⟨A1, c1, rfl, _, _, hs1⟩ := hs1.cases_
  have Hb1 := Lib.hid hb1
  have Hs1 := Lib.hid hs1
  clear hb1 hs1
  go_wp2_with fail
  refine Pack_calls l _ _ Hs1.out Hwide.out (HSh.out.up Hb1.out h0) _ (fun w2 v2 hb2 hbuf => ?_)
  rw [K1.out]
  rw [K2.out] at hbuf
  obtain ⟨bs, hbs⟩ : ∃ bs, bs = packB l := ⟨_, rfl⟩
  rw [← hbs] at hbuf
  have HoF : Hid (openF bs = (0, 0)) := Lib.hid (by rw [hbs]; exact K4.out)
  have HoO : Hid (openO bs = l) := Lib.hid (by rw [hbs]; exact K5.out)
  obtain ⟨A2, c2, rfl⟩ := hbuf.slice
  obtain ⟨W2, hW2⟩ : ∃ W2, W2 = w2.alloc (Obj.cells #[.int .i64 0, .int .i64 0] 27) := ⟨_, rfl⟩
  have hF2 : W2.heap[w2.heap.size]? = some (.cells #[.int .i64 0, .int .i64 0] 27 (0, 0)) := by subst hW2; exact heap_alloc_new _ _
  have hbw2 : Below w2.heap.size w2 W2 := by subst hW2; exact bl0
  have hb12 : Below w1.heap.size w1 W2 := hb2.trans (hbw2.mono hb2.size)
  have HB2 := Lib.hid ((hbuf.SL (Nat.le_refl _)).up hbw2 hbw2.size)
  have HL2 := Lib.hid (Hs1.out.up hb12 hb12.size)
  obtain ⟨f0, f1⟩ := cells_blk hF2
  have hl2 := blk_lt hF2
  have Hbw2 := Lib.hid (Hb1.out.trans (hb12.mono Hb1.out.size))
  have HW2 := Lib.hid hW2.symm
  clear hb2 hbuf hW2 hF2 hbw2 hb12 hbs
  go_upto_region 3 with fail
  rw [HW2.out]
  go_wp2_with fail
  refine bundleSure_calls _ (HSh.out.up Hbw2.out h0) _ (fun w3 hb3 => ?_)
  have Hb3 := Lib.hid (Hbw2.out.trans (hb3.mono Hbw2.out.size))
  have HB3 := Lib.hid (HB2.out.up hb3 hb3.size)
  have HL3 := Lib.hid (HL2.out.up hb3 hb3.size)
  clear hb3 f0 f1 hl2
  go_wp2_with fail
  refine linkSure_calls _ (HSh.out.up Hb3.out h0) _ (fun w4 hb4 => ?_)
  have Hb4 := Lib.hid (Hb3.out.trans (hb4.mono Hb3.out.size))
  have HB4 := Lib.hid (HB3.out.up hb4 hb4.size)
  have HL4 := Lib.hid (HL3.out.up hb4 hb4.size)
  clear hb4
  by_cases hz : l.length = 0
  · have hz0 : ((l.length : Int) == 0) = true := by simp [hz]
    have hfin := Lib.hid (HR.out w4 Hb4.out)
    clear hz
    go_wp2
    exact hfin.out
  have hz0 : ((l.length : Int) == 0) = false := by simp [hz]
  have hp : 0 < l.length := Nat.pos_of_ne_zero hz
  clear hz
  go_upto_region 7 with fail
  obtain ⟨W5, hW5⟩ : ∃ W, W = w4.alloc (.cells ([mainB].map Value.string).toArray 9) := ⟨_, rfl⟩
  have hbW5 : Below w4.heap.size w4 W5 := by subst hW5; exact bl0
  have hnW5 : rpStr.SL W5 W5.heap.size [mainB] (.slice (some ⟨w4.heap.size, 0, none⟩) 1 1) := by subst hW5; exact strs_made w4 [mainB] (by simp) (by simp)
  have hEW5 := Hb4.out.trans (hbW5.mono Hb4.out.size)
  have HWW5 : Hid (w4.alloc (Obj.cells #[.string ⟨#[109, 97, 105, 110]⟩] 9) = W5) := Lib.hid hW5.symm
  have Hb5 := Lib.hid hEW5
  have HN5 := Lib.hid hnW5
  have HB5 := Lib.hid (HB4.out.up hbW5 hbW5.size)
  have HL5 := Lib.hid (HL4.out.up hbW5 hbW5.size)
  clear hW5 hbW5 hnW5 hEW5
  go_wp2_with fail
  rw [HWW5.out]
  refine Need_calls _ _ bs [mainB] _ HB5.out HN5.out (HSh.out.up Hb5.out h0) _ (fun w6 v6 xs6 hb6 hx6 hs6 => ?_)
  have hf6 : needF bs [mainB] = (0, 0) := needF_good HoF.out (by simp) (fun x hx => by
    rw [HoO.out]
    simp only [List.mem_cons, List.not_mem_nil, or_false] at hx
    rw [hx, Hmain.out hp]
    omega)
  obtain ⟨S6, hg6, rfl⟩ := needs_got hf6 hx6
  rw [hf6]
  rw [HoO.out, show needKs l [mainB] = [0] from by simp [needKs, Hmain.out hp]] at hg6
  have hks6 : (ksM S6).length ≤ 6 := by have := ksM_len S6; have := hg6.len; omega
  have hlt6 : ∀ k ∈ ksM S6, k < l.length := fun k hk => by rw [← hg6.len]; exact (List.getElem?_eq_some_iff.1 (ksM_mem.1 hk)).1
  have Hsm := Lib.hid (Hsame.out S6 hp hg6)
  rw [ksM_idxs] at hs6
  generalize ksM S6 = ks at *
  have Hlt6 := Lib.hid hlt6
  obtain ⟨A6, c6, hv6, _, hcap6, hs6⟩ := hs6.cases_
  obtain ⟨n, hn⟩ : ∃ n, n = ks.length := ⟨_, rfl⟩
  rw [List.length_map, ← hn] at hv6 hcap6 hs6
  subst hv6
  have Hn := Lib.hid hn
  rw [← hn] at hks6
  obtain ⟨W6, hW6⟩ : ∃ W, W = w6.alloc (Obj.cells #[.int .i64 0, .int .i64 0] 27) := ⟨_, rfl⟩
  have hF6 : W6.heap[w6.heap.size]? = some (.cells #[.int .i64 0, .int .i64 0] 27 (0, 0)) := by subst hW6; exact heap_alloc_new _ _
  have hbw6 : Below w6.heap.size w6 W6 := by subst hW6; exact bl0
  have hb56 := hb6.trans (hbw6.mono hb6.size)
  have Hb6 := Lib.hid (Hb5.out.trans (hb56.mono Hb5.out.size))
  have HB6 := Lib.hid (HB5.out.up hb56 hb56.size)
  have HL6 := Lib.hid (HL5.out.up hb56 hb56.size)
  have HX6 := Lib.hid (hs6.up hbw6 hbw6.size)
  have HF6 := Lib.hid hF6
  have HW6 := Lib.hid hW6.symm
  clear hb6 hx6 hs6 hW6 hF6 hbw6 hb56 hf6 hg6 hlt6 hn
  go_upto_region 8 with fail
  rw [HW6.out]
  go_wp2_with fail
  refine Open_calls _ bs _ HB6.out (HSh.out.up Hb6.out h0) _ (fun w7 v7 hb7 hs7 => ?_)
  rw [HoF.out]
  rw [HoO.out] at hs7
  obtain ⟨A7, c7, rfl, _, hcap7, hs7⟩ := hs7.cases_
  obtain ⟨W7, hW7⟩ : ∃ W, W = w7.alloc (Obj.cells #[.int .i64 0, .int .i64 0] 27) := ⟨_, rfl⟩
  have hF7 : W7.heap[w7.heap.size]? = some (.cells #[.int .i64 0, .int .i64 0] 27 (0, 0)) := by subst hW7; exact heap_alloc_new _ _
  have hbw7 : Below w7.heap.size w7 W7 := by subst hW7; exact bl0
  have hb67 := hb7.trans (hbw7.mono hb7.size)
  have Hb7 := Lib.hid (Hb6.out.trans (hb67.mono Hb6.out.size))
  have HL7 := Lib.hid (HL6.out.up hb67 hb67.size)
  have HX7 := Lib.hid (HX6.out.up hb67 hb67.size)
  have HO7 := Lib.hid (hs7.SL.up hbw7 hbw7.size)
  have hF67 := (hb67.block _ (blk_lt HF6.out)).trans HF6.out
  obtain ⟨f0, f1⟩ := cells_blk hF67
  obtain ⟨g0, g1⟩ := cells_blk hF7
  have lf := blk_lt hF67
  have lg := blk_lt hF7
  have HW7 := Lib.hid hW7.symm
  clear hb7 hs7 hW7 hF7 hbw7 hb67 hF67 HX6 HF6 HB6 HL6
  go_upto_region 9 with fail
  rw [HW7.out]
  go_wp2_with fail
  clear f0 f1 g0 g1 lf lg
  go_loopg [10, 11] n (fun gh s10 s11 wr => ∃ (i : Nat) (css : List (List Value)), i ≤ n ∧ gh = n - i ∧ s11 = .int .i64 (i : Int) ∧ Built rpObject W7.heap.size 40 (fun _ => False) wr s10 (pickL (objOf raw 6 true) (ks.take i)) css ∧ Below W7.heap.size W7 wr)
  case atStart => exact ⟨0, [], Nat.zero_le _, rfl, rfl, Built.nil _ _ _ _ _ (fun _ h => h.elim), Below.refl _ _⟩
  case round =>
    obtain ⟨i, css, hi, rfl, rfl, hbu, hbel⟩ := hrel
    have Hbu := Lib.hid hbu
    have Hbel := Lib.hid hbel
    have hz := hbel.size
    have k0 : (0 : Int) ≤ (i : Int) := Int.natCast_nonneg _
    obtain ⟨A9, n9, hs9⟩ := own_slice hbu.own
    have Hlen : Hid ((pickL (objOf raw 6 true) (ks.take i)).length = i) := Lib.hid (by rw [pickL_length, List.length_take, ← Hn.out]; omega)
    rw [Hlen.out] at hs9
    subst hs9
    clear hbu hbel
    by_cases hlt : i < n
    · have hik : i < ks.length := by rw [← Hn.out]; exact hlt
      obtain ⟨bx, ox, rfl, hbx, px⟩ := HX7.out.int_at (k := i) (by rw [List.length_map]; exact hik)
      have hjl := Hlt6.out ks[i] (List.getElem_mem hik)
      have Hst : Hid (pickL (objOf raw 6 true) (ks.take (i + 1)) = pickL (objOf raw 6 true) (ks.take i) ++ [segO (objOf raw 6 true) ks[i] (ks[i] + 1)]) := Lib.hid (pickL_take_snoc hik)
      have ej : (ks.map fun i : Nat => (i : Int)).getD i 0 = (ks[i] : Int) := by
        rw [List.getD_eq_getElem?_getD, List.getElem?_map, List.getElem?_eq_getElem hik]
        rfl
      rw [ej] at px
      generalize ks[i] = j at *
      have px' := (Hbel.out.cell (p := ⟨bx, ox + i, none⟩) hbx).trans px
      have lbx : bx < wr.heap.size := Nat.lt_of_lt_of_le hbx hz
      obtain ⟨b, off, x, v1, v2, rfl, hb, e, hx1, hx2, q0, q1⟩ := HO7.out.object_at (k := j) hjl
      obtain rfl := Hseg.out j x e
      obtain ⟨B1, m1, rfl, _, _, hx1⟩ := hx1.cases_
      obtain ⟨B2, m2, rfl, _, _, hx2⟩ := hx2.cases_
      generalize segO (objOf raw 6 true) j (j + 1) = x at *
      have p0 := (Hbel.out.cell (p := ⟨b, off + j * 2, none⟩) hb).trans q0
      have p1 := (Hbel.out.cell (p := ⟨b, off + j * 2 + 1, none⟩) hb).trans q1
      have lb : b < wr.heap.size := Nat.lt_of_lt_of_le hb hz
      have k1 : (i : Int) < (n : Int) := by omega
      have j0 : (0 : Int) ≤ (j : Int) := Int.natCast_nonneg _
      have j1 : (j : Int) < (l.length : Int) := by omega
      have j2 : ¬ (j : Int) < 0 := by omega
      have j3 : ¬ (l.length : Int) ≤ (j : Int) := by omega
      have Hx := Lib.hid (And.intro hx1 hx2)
      have HBu0 := Lib.hid (Hbu.out.alloc (Obj.cells #[.slice B1 x.globals.length m1, .slice B2 x.sections.length m2] 40))
      have HBo : Hid ((wr.alloc (Obj.cells #[.slice B1 x.globals.length m1, .slice B2 x.sections.length m2] 40)).ownsRow W7.heap.size 40 2 (.slice A9 i n9) i css.flatten) := Lib.hid (by have := HBu0.out.own; rw [Hlen.out] at this; exact this)
      have Hap : Hid (Apart rpObject (fun _ => False) (wr.alloc (Obj.cells #[.slice B1 x.globals.length m1, .slice B2 x.sections.length m2] 40)) (.slice A9 i n9) x [.slice B1 x.globals.length m1, .slice B2 x.sections.length m2]) := Lib.hid (Apart.of_old (w0 := W7) (B := W7.heap.size) (rpObject_mk Hx.out.1 Hx.out.2) (by simp; omega) (Hbel.out.alloc hz _) (fun _ h => h.elim) (fun g hg => (Hbu.out.own.lt g hg).1))
      clear q0 q1 hx1 hx2 e px ej hik hjl
      go_wp2_with (at_builtin; refine wpList_append_lies _ rfl _ _ 23 rfl W7.heap.size 40 iO _ 2 48 Tryz.underlying23 hiO zO0 zO1 zO2 rfl (by decide) (.slice A9 i n9) i css.flatten rfl HBo.out ⟨wr.heap.size, 0, none⟩ 1 1 [.slice B1 x.globals.length m1, .slice B2 x.sections.length m2] rfl rfl ?_ ?_ (by decide) ?_ ?_ ?_ _ rfl ?_)
      any_goals (first | exact World.news_of_block (cs := #[.slice B1 x.globals.length m1, .slice B2 x.sections.length m2]) (t := 40) (fr := (0, 0)) (heap_alloc_new _ _) | (simp [Value.oneCell']; done) | (unfold maxLen; omega) | omega | (simp; done) | (simp; omega))
      intro gb cap w9 hown9 hgrow9 hat9 hlt9
      have HB9 := Lib.hid (HBu0.out.push hown9 (by rw [Hlen.out]) hgrow9 (by simpa using hat9) Hap.out)
      have Hbel9 := Lib.hid ((Hbel.out.alloc hz _).trans ((Grew.of_grown hgrow9).below (B := W7.heap.size) (fun j hj e => by have := (Hbu.out.own.lt j e).1; omega) (by simp; omega)))
      clear hown9 hgrow9 hat9 hlt9
      go_wp2
      go_roundg (n - (i + 1))
      case measure => omega
      case rel => exact ⟨i + 1, _, hlt, rfl, by go_num, by rw [Hst.out]; exact HB9.out, Hbel9.out⟩
    · obtain rfl : i = n := by omega
      have k1 : ¬ (i : Int) < (i : Int) := by omega
      have hother : rpObject.SL wr wr.heap.size (pickL (objOf raw 6 true) (ks.take i)) (.slice A9 i n9) := Hbu.out.SL (Nat.le_refl _)
      rw [show ks.take i = ks from by rw [Hn.out, List.take_length]] at hother
      have Hother := Lib.hid hother
      have HL8 := Lib.hid (HL7.out.up Hbel.out hz)
      have Hb8 := Lib.hid (Hb7.out.trans (Hbel.out.mono Hb7.out.size))
      have HSh8 := Lib.hid (HSh.out.up Hb8.out h0)
      obtain ⟨L1, hL1⟩ : ∃ L1, L1 = linkDo l := ⟨_, rfl⟩
      have HL1 := Lib.hid hL1
      have Hsm2 : Hid (linkDo (pickL (objOf raw 6 true) ks) = L1) := Lib.hid (by rw [hL1]; exact Hsm.out.symm)
      generalize pickL (objOf raw 6 true) ks = few at *
      clear hother hL1 hz hi
      go_wp2_with fail
      refine Do_calls l _ _ HL8.out HSh8.out _ (fun w4 v1 v2 hb4 hg4 hr4 => ?_)
      rw [← HL1.out] at hg4 hr4 ⊢
      obtain ⟨B1, m1, rfl, _, _, hg4⟩ := hg4.cases_
      obtain ⟨B2, m2, rfl, _, _, hr4⟩ := hr4.cases_
      obtain ⟨X5, hX5⟩ : ∃ X5, X5 = (w4.alloc (Obj.cells #[.slice B1 L1.1.globals.length m1, .slice B2 L1.1.routines.length m2] 43)).alloc (Obj.cells #[.int .i64 L1.2.1, .int .i64 L1.2.2] 27) := ⟨_, rfl⟩
      have hbX5 : Below w4.heap.size w4 X5 := by subst hX5; exact bl0
      have hI5 : X5.heap[w4.heap.size]? = some (.cells #[.slice B1 L1.1.globals.length m1, .slice B2 L1.1.routines.length m2] 43 (0, 0)) := by subst hX5; exact blk_alloc (heap_alloc_new _ _) _
      have hF5 : X5.heap[w4.heap.size + 1]? = some (.cells #[.int .i64 L1.2.1, .int .i64 L1.2.2] 27 (0, 0)) := by
        subst hX5
        have := heap_alloc_new (w4.alloc (Obj.cells #[.slice B1 L1.1.globals.length m1, .slice B2 L1.1.routines.length m2] 43)) (Obj.cells #[.int .i64 L1.2.1, .int .i64 L1.2.2] 27)
        simpa using this
      have hb35 := hb4.trans (hbX5.mono hb4.size)
      have hb5w := Hb8.out.trans (hb35.mono Hb8.out.size)
      have Hother5 := Lib.hid (Hother.out.up hb35 hb35.size)
      have HG5 := Lib.hid (hg4.up hbX5 hbX5.size)
      have HR5 := Lib.hid (hr4.up hbX5 hbX5.size)
      have HI5 := Lib.hid hI5
      have HF5 := Lib.hid hF5
      have Hbx5 := Lib.hid hb5w
      have HSh5 := Lib.hid (HSh.out.up hb5w h0)
      have HX5 := Lib.hid hX5.symm
      clear hb4 hg4 hr4 hX5 hbX5 hI5 hF5 hb35 hb5w
      go_upto_region 19 with fail
      rw [HX5.out]
      go_wp2_with fail
      refine Do_calls few _ _ Hother5.out HSh5.out _ (fun w6 v1 v2 hb6 hg6 hr6 => ?_)
      rw [Hsm2.out] at hg6 hr6 ⊢
      obtain ⟨D1, m3, rfl, _, _, hg6⟩ := hg6.cases_
      obtain ⟨D2, m4, rfl, _, _, hr6⟩ := hr6.cases_
      obtain ⟨X7, hX7⟩ : ∃ X7, X7 = (w6.alloc (Obj.cells #[.slice D1 L1.1.globals.length m3, .slice D2 L1.1.routines.length m4] 43)).alloc (Obj.cells #[.int .i64 L1.2.1, .int .i64 L1.2.2] 27) := ⟨_, rfl⟩
      have hbX7 : Below w6.heap.size w6 X7 := by subst hX7; exact bl0
      have hI7 : X7.heap[w6.heap.size]? = some (.cells #[.slice D1 L1.1.globals.length m3, .slice D2 L1.1.routines.length m4] 43 (0, 0)) := by subst hX7; exact blk_alloc (heap_alloc_new _ _) _
      have hF7 : X7.heap[w6.heap.size + 1]? = some (.cells #[.int .i64 L1.2.1, .int .i64 L1.2.2] 27 (0, 0)) := by
        subst hX7
        have := heap_alloc_new (w6.alloc (Obj.cells #[.slice D1 L1.1.globals.length m3, .slice D2 L1.1.routines.length m4] 43)) (Obj.cells #[.int .i64 L1.2.1, .int .i64 L1.2.2] 27)
        simpa using this
      have hb57 := hb6.trans (hbX7.mono hb6.size)
      have hb7w := Hbx5.out.trans (hb57.mono Hbx5.out.size)
      have HG7 := Lib.hid (hg6.up hbX7 hbX7.size)
      have HR7 := Lib.hid (hr6.up hbX7 hbX7.size)
      have HG5' := Lib.hid (HG5.out.up hb57 hb57.size)
      have HR5' := Lib.hid (HR5.out.up hb57 hb57.size)
      have hI57 := (hb57.block _ (blk_lt HI5.out)).trans HI5.out
      have hF57 := (hb57.block _ (blk_lt HF5.out)).trans HF5.out
      obtain ⟨i0, i1⟩ := cells_blk hI57
      obtain ⟨f0, f1⟩ := cells_blk hF57
      obtain ⟨j0, j1⟩ := cells_blk hI7
      obtain ⟨g0, g1⟩ := cells_blk hF7
      have hl1 := blk_lt hI57
      have hl2 := blk_lt hF57
      have hl3 := blk_lt hI7
      have hl4 := blk_lt hF7
      have Hbx7 := Lib.hid hb7w
      have HX7' := Lib.hid hX7.symm
      clear hb6 hg6 hr6 hX7 hbX7 hI7 hF7 hb57 hb7w hI57 hF57
      go_upto_region 20 with fail
      rw [HX7'.out]
      have hq : ∀ w, (binOp .eql 27 (.agg #[.int .i64 L1.2.1, .int .i64 L1.2.2]) (.agg #[.int .i64 L1.2.1, .int .i64 L1.2.2])).run Tryz.prog w = .ok (.bool true) w := fun w => by rw [eql_Fault]; simp
      go_wp2_with fail
      refine SameImage_calls L1.1 _ _ _ _ _ HG5'.out HR5'.out HG7.out HR7.out _ (fun w8 hb8 => ?_)
      have Hfin := Lib.hid (HR.out _ (Hbx7.out.trans (hb8.mono Hbx7.out.size)))
      clear hb8
      go_wp2
      exact Hfin.out
end Go.Proofs.YtcakodemngchpaaGreatDoor
