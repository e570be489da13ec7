/- LinkApart: linked apart or together. -/
import Derived.Test.YtegnemfjcmhncaaDoorBase
import Derived.Test.YtegnemfjcmhncaaDoorRows
import Derived.IntWalk
import Derived.Outline
import Derived.Deep.LoopGhost
import Derived.Deep.RegionHeld3
import Derived.Deep.RegionLaw
import Derived.Test.YtegnemfjcmhncaaDoorMachD
import Derived.Test.YtegnemfjcmhncaaDoorKb0
import Derived.Test.YtegnemfjcmhncaaDoorLawA
import Derived.Test.YtegnemfjcmhncaaDoorLink11
namespace Go.Proofs.YtegnemfjcmhncaaDoor
open Go.RowKit
set_option linter.unusedSimpArgs false
set_option linter.unusedVariables false

theorem perm_once {α : Type} [DecidableEq α] : ∀ (xs ys : List α), xs.Nodup → (∀ x ∈ xs, x ∈ ys) → ys.length ≤ xs.length → xs.Perm ys
  | [], ys, _, _, hl => by
    have : ys = [] := List.eq_nil_of_length_eq_zero (by simpa using hl)
    subst this; exact List.Perm.refl _
  | x :: xs, ys, hn, hs, hl => by
    rw [List.nodup_cons] at hn
    have hx : x ∈ ys := hs x (by simp)
    have hlen : (ys.erase x).length = ys.length - 1 := List.length_erase_of_mem hx
    have := perm_once xs (ys.erase x) hn.2 (fun z hz => by
      rw [List.mem_erase_of_ne (by rintro rfl; exact hn.1 hz)]
      exact hs z (by simp [hz])) (by simp at hl; omega)
    exact (this.cons x).trans (List.perm_cons_erase hx).symm
/-- The places of the objects, turned round. -/
def turnK (n t k : Nat) : List Nat := (List.range k).map fun i => (i + t) % n
theorem turnK_snoc (n t k : Nat) : turnK n t (k + 1) = turnK n t k ++ [(k + t) % n] := by
  unfold turnK
  rw [List.range_succ, List.map_append]
  rfl
theorem turnK_len (n t k : Nat) : (turnK n t k).length = k := by unfold turnK; simp
theorem turnK_once {n t : Nat} (hn : 0 < n) : (turnK n t n).Nodup := by
  unfold turnK
  rw [List.nodup_iff_pairwise_ne, List.pairwise_map]
  refine List.pairwise_lt_range.imp_of_mem fun {a b} ha hb hab => ?_
  rw [List.mem_range] at ha hb
  intro e
  have h1 : (b + t - (a + t)) % n = 0 := Nat.sub_mod_eq_zero_of_mod_eq e.symm
  rw [Nat.add_sub_add_right, Nat.mod_eq_of_lt (by omega)] at h1
  omega
theorem turnK_all {n t : Nat} (hn : 0 < n) (k : Nat) : k ∈ turnK n t n ↔ k < n := by
  constructor
  · intro h
    unfold turnK at h
    obtain ⟨i, _, e⟩ := List.mem_map.1 h
    rw [← e]
    exact Nat.mod_lt _ hn
  · intro hk
    have hsub : ∀ x ∈ turnK n t n, x ∈ List.range n := fun x hx => by
      unfold turnK at hx
      obtain ⟨i, _, e⟩ := List.mem_map.1 hx
      rw [List.mem_range, ← e]
      exact Nat.mod_lt _ hn
    have hp := perm_once (turnK n t n) (List.range n) (turnK_once (t := t) hn) hsub (by rw [turnK_len, List.length_range]; exact Nat.le_refl _)
    exact hp.mem_iff.2 (List.mem_range.2 hk)
theorem pickL_len (o : Object) (ks : List Nat) : (pickL o ks).length = ks.length := by unfold pickL; simp
theorem pickL_snoc (o : Object) (ks : List Nat) (k : Nat) : pickL o (ks ++ [k]) = pickL o ks ++ [segO o k (k + 1)] := by
  unfold pickL
  rw [List.map_append]
  rfl
theorem none_do : ((linkDo []).2).1 = 6 ∧ ∀ o : Object, o.sections = [] → linkF [o] = (0, 0) → ((linkDo [o]).2).1 = 6 := by
  refine ⟨by decide +kernel, fun o ho hl => ?_⟩
  have hm : metF [o] = (6, -1) := by
    unfold metF
    rw [hl, if_neg (by simp), allS_one, ho]
    decide +kernel
  unfold linkDo
  rw [hm, if_pos (by simp)]
theorem eqF (a b : Int × Int) (w : World) (h : a = b) : (binOp .eql 36 (.agg #[.int .i64 (a).1, .int .i64 (a).2]) (.agg #[.int .i64 (b).1, .int .i64 (b).2])).run Tryd.prog w = .ok (.bool true) w := by
  subst h
  rw [eql_Fault]
  simp
set_option maxRecDepth 100000 in
set_option maxHeartbeats 8000000 in
theorem LinkApart_calls (raw : List (List Int)) (v : Value) (turn : Int) (w : World) (h : rpInt.slice.SL w w.heap.size raw v) (hraw : ∀ l ∈ raw, ∀ x ∈ l, I64 x) (hturn : I64 turn) (hS : Shapes w) (R : Ending → World → Prop)
    (hR : ∀ w', Below w.heap.size w w' → R (.returned (.bool true)) w') :
    Calls Tryd.prog 3 #[v, .int .i64 turn] w R := by
  have h0 := hS.1
  obtain ⟨iO, hiO, zO0, zO1, zO2⟩ := info_parts info_ObjectK
  obtain ⟨A, c, rfl, hm, hcap, h⟩ := h.cases_
  have HR := Lib.hid hR
  have H := Lib.hid h
  have Hraw := Lib.hid hraw
  have HSh := Lib.hid hS
  obtain ⟨o, ho⟩ : ∃ o, o = objOf raw 6 true := ⟨_, rfl⟩
  have Ho := Lib.hid ho
  obtain ⟨n, hn⟩ : ∃ n, n = o.sections.length := ⟨_, rfl⟩
  have Hhn := Lib.hid hn
  have hn6 : n ≤ 6 := by rw [hn, ho]; exact kit_secs raw
  have HkL : Hid (kitL raw = bunL o o.sections.length) := Lib.hid (by rw [ho]; rfl)
  have Hok : Hid (ObjOk o) := Lib.hid (by rw [ho]; exact objOf_ok (by decide) hraw)
  have Hmain : Hid (0 < o.sections.length → hasS o.sections mainB = true) := Lib.hid (by rw [ho]; exact kit_hasMain)
  clear hR h hraw ho hS hn
  go_enter Tryd.func3, Tryd.ntmps3
  go_wp2_with fail
  refine linkSure_calls _ HSh.out _ (fun wa hba => ?_)
  have Hba := Lib.hid hba
  clear hba
  go_wp2_with fail
  refine KitObject_calls raw _ 6 true _ (H.out.up Hba.out Hba.out.size) Hraw.out (by decide) _ (fun w1 u1 u2 hb1 hu1 hu2 => ?_)
  rw [← Ho.out] at hu1 hu2
  obtain ⟨A1, n1, rfl, _, _, hu1⟩ := hu1.cases_
  obtain ⟨A2, n2, hv2e, _, hcap2, hu2⟩ := hu2.cases_
  rw [← Hhn.out] at hv2e hcap2
  subst hv2e
  obtain ⟨W1, hW1⟩ : ∃ W1, W1 = w1.alloc (Obj.cells #[.slice A1 o.globals.length n1, .slice A2 n n2] 27) := ⟨_, rfl⟩
  have hbw : Below w1.heap.size w1 W1 := by subst hW1; exact bl0
  have hV : W1.heap[w1.heap.size]? = some (.cells #[.slice A1 o.globals.length n1, .slice A2 n n2] 27 (0, 0)) := by subst hW1; exact heap_alloc_new _ _
  have Hb1 := Lib.hid (Hba.out.trans ((hb1.trans (hbw.mono hb1.size)).mono Hba.out.size))
  have HG := Lib.hid (hu1.SL.up hbw hbw.size)
  have HS := Lib.hid (hu2.SL.up hbw hbw.size)
  have HV := Lib.hid hV
  have HW1 := Lib.hid hW1.symm
  clear hu1 hu2 hb1 hW1 hbw hV
  go_upto_region 4 with fail
  rw [HW1.out]
  go_wp2_with fail
  refine bundled_calls raw _ _ (H.out.up Hb1.out Hb1.out.size) Hraw.out _ (fun w2 v6 hb2 hv6 => ?_)
  rw [HkL.out] at hv6
  obtain ⟨A6, n6, hv6e, hl6, hcap6, hv6⟩ := hv6.cases_
  rw [bunL_len, ← Hhn.out] at hv6e hcap6 hl6
  subst hv6e
  have Hv6 := Lib.hid hv6
  have Hb2 := Lib.hid (Hb1.out.trans (hb2.mono Hb1.out.size))
  have HV2 := Lib.hid ((hb2.block _ (blk_lt HV.out)).trans HV.out)
  have HG2 := Lib.hid (HG.out.up hb2 hb2.size)
  have HS2 := Lib.hid (HS.out.up hb2 hb2.size)
  clear hb2 hv6
  obtain ⟨tt, htt⟩ : ∃ tt : Nat, 0 < n → turn % (n : Int) = (tt : Int) ∧ tt < n := by
    refine ⟨(turn % (n : Int)).toNat, fun h => ?_⟩
    have e1 := Int.emod_nonneg turn (show (n : Int) ≠ 0 by omega)
    have e2 := Int.emod_lt_of_pos turn (show (0 : Int) < (n : Int) by omega)
    omega
  have Htt := Lib.hid htt
  clear htt
  go_wp2_with fail
  go_loopg [7, 8] n (fun gh s7 s8 wr => ∃ (k : Nat) (css : List (List Value)), k ≤ n ∧ gh = n - k ∧ s8 = .int .i64 (k : Int) ∧ Built rpObject w2.heap.size 27 (fun _ => False) wr s7 (pickL o (turnK n tt k)) css ∧ Below w2.heap.size w2 wr)
  case atStart => exact ⟨0, [], Nat.zero_le _, rfl, rfl, Built.nil _ _ _ _ _ (fun _ h => h.elim), Below.refl _ _⟩
  case round =>
    obtain ⟨k, css, hk, rfl, rfl, hbu, hbel⟩ := hrel
    have Hbu := Lib.hid hbu
    have Hbel := Lib.hid hbel
    have hz := hbel.size
    have k0 : (0 : Int) ≤ (k : Int) := Int.natCast_nonneg _
    obtain ⟨A7, n7, hs7⟩ := own_slice hbu.own
    have Hlen : Hid ((pickL o (turnK n tt k)).length = k) := Lib.hid (by rw [pickL_len, turnK_len])
    rw [Hlen.out] at hs7
    subst hs7
    clear hbu hbel
    by_cases hlt : k < n
    · obtain ⟨t1, t2⟩ := Htt.out (by omega)
      have hj : (k + tt) % n < n := Nat.mod_lt _ (by omega)
      obtain ⟨b, off, x, v1, v2, rfl, hb, e, hx1, hx2, q0, q1⟩ := Hv6.out.object_at (k := (k + tt) % n) (by rw [bunL_len, ← Hhn.out]; exact hj)
      rw [bunL_at (by rw [← Hhn.out]; exact hj)] at e
      obtain rfl := Option.some.inj e
      obtain ⟨B1, m1, rfl, _, _, hx1⟩ := hx1.cases_
      obtain ⟨B2, m2, rfl, _, _, hx2⟩ := hx2.cases_
      have hrem : ((k : Int) + (tt : Int)).tmod (n : Int) = (((k + tt) % n : Nat) : Int) := by
        rw [← Int.natCast_add]
        exact Int.ofNat_tmod _ _
      obtain ⟨j, hjj⟩ : ∃ j, j = (k + tt) % n := ⟨_, rfl⟩
      rw [← hjj] at hrem q0 q1 hj hx1 hx2
      have p0 := (Hbel.out.cell (p := ⟨b, off + j * 2, none⟩) hb).trans q0
      have p1 := (Hbel.out.cell (p := ⟨b, off + j * 2 + 1, none⟩) hb).trans q1
      have k1 : (k : Int) < (n : Int) := by omega
      have k2 : (k : Int) + (tt : Int) ≤ 20 := by omega
      have k3 : (0 : Int) ≤ (k : Int) + (tt : Int) := by omega
      have j0 : (0 : Int) ≤ (j : Int) := Int.natCast_nonneg _
      have j1 : (j : Int) < (n : Int) := by omega
      have hnz : ((n : Int) == 0) = false := by simp; omega
      have Hjj := Lib.hid hjj
      have Hx := Lib.hid (And.intro hx1 hx2)
      have HBu0 := Lib.hid (Hbu.out.alloc (Obj.cells #[.slice B1 (segO o j (j + 1)).globals.length m1, .slice B2 (segO o j (j + 1)).sections.length m2] 27))
      have HBo : Hid ((wr.alloc (Obj.cells #[.slice B1 (segO o j (j + 1)).globals.length m1, .slice B2 (segO o j (j + 1)).sections.length m2] 27)).ownsRow w2.heap.size 27 2 (.slice A7 k n7) k css.flatten) := Lib.hid (by have := HBu0.out.own; rw [Hlen.out] at this; exact this)
      have Hap : Hid (Apart rpObject (fun _ => False) (wr.alloc (Obj.cells #[.slice B1 (segO o j (j + 1)).globals.length m1, .slice B2 (segO o j (j + 1)).sections.length m2] 27)) (.slice A7 k n7) (segO o j (j + 1)) [.slice B1 (segO o j (j + 1)).globals.length m1, .slice B2 (segO o j (j + 1)).sections.length m2]) := Lib.hid (Apart.of_old (w0 := w2) (B := w2.heap.size) (rpObject_mk Hx.out.1 Hx.out.2) (by simp; omega) (Hbel.out.alloc hz _) (fun _ h => h.elim) (fun g hg => (Hbu.out.own.lt g hg).1))
      have T1 := Lib.hid t1
      clear q0 q1 hx1 hx2 hjj t1 e
      go_wp2_with fail
      refine Picked_calls turn (n : Int) (by omega) (by omega) hturn _ _ ?_
      rw [T1.out]
      go_wp2_with (at_builtin; refine wpList_append_lies _ rfl _ _ 29 rfl w2.heap.size 27 iO _ 2 48 Tryd.underlying29 hiO zO0 zO1 zO2 rfl (by decide) (.slice A7 k n7) k css.flatten rfl HBo.out ⟨wr.heap.size, 0, none⟩ 1 1 [.slice B1 (segO o j (j + 1)).globals.length m1, .slice B2 (segO o j (j + 1)).sections.length m2] rfl rfl ?_ ?_ (by decide) ?_ ?_ ?_ _ rfl ?_)
      any_goals (first | exact World.news_of_block (cs := #[.slice B1 (segO o j (j + 1)).globals.length m1, .slice B2 (segO o j (j + 1)).sections.length m2]) (t := 27) (fr := (0, 0)) (heap_alloc_new _ _) | (simp [Value.oneCell']; done) | (unfold maxLen; omega) | omega | (simp; done) | (simp; omega))
      intro gb cap w9 hown9 hgrow9 hat9 hlt9
      have HB9 := Lib.hid (HBu0.out.push hown9 (by rw [Hlen.out]) hgrow9 (by simpa using hat9) Hap.out)
      have Hbel9 := Lib.hid ((Hbel.out.alloc hz _).trans ((Grew.of_grown hgrow9).below (B := w2.heap.size) (fun j hj e => by have := (Hbu.out.own.lt j e).1; omega) (by simp; omega)))
      clear hown9 hgrow9 hat9 hlt9
      go_wp2
      go_roundg (n - (k + 1))
      case measure => omega
      case rel => exact ⟨k + 1, _, hlt, rfl, by go_num, by rw [turnK_snoc, pickL_snoc, ← Hjj.out]; exact HB9.out, Hbel9.out⟩
    · obtain rfl : k = n := by omega
      have k1 : ¬ (k : Int) < (k : Int) := by omega
      have hV6 := (Hbel.out.block _ (blk_lt HV2.out)).trans HV2.out
      obtain ⟨c0, c1⟩ := cells_blk hV6
      have hlV := blk_lt hV6
      go_wp2_with fail
      have hb3 : Below w2.heap.size w2 (wr.alloc (Obj.cells #[.slice A1 o.globals.length n1, .slice A2 k n2] 27)) := Hbel.out.alloc hz _
      obtain ⟨W3, hW3⟩ : ∃ W3, W3 = wr.alloc (Obj.cells #[.slice A1 o.globals.length n1, .slice A2 k n2] 27) := ⟨_, rfl⟩
      rw [← hW3] at hb3
      have hbW3 : Below wr.heap.size wr W3 := by subst hW3; exact bl0
      have hO3 : W3.heap[wr.heap.size]? = some (.cells #[.slice A1 o.globals.length n1, .slice A2 k n2] 27 (0, 0)) := by subst hW3; exact heap_alloc_new _ _
      have hone : rpObject.SL W3 W3.heap.size [o] (.slice (some ⟨wr.heap.size, 0, none⟩) 1 1) := SL_one (cs := [.slice A1 o.globals.length n1, .slice A2 k n2]) hO3 (blk_lt hO3) (rpObject_mk (HG2.out.up hb3 hb3.size) (HS2.out.up hb3 hb3.size))
      have hother : rpObject.SL W3 W3.heap.size (pickL o (turnK k tt k)) (.slice A7 k n7) := by
        have := (Hbu.out.below hbW3 (Nat.le_refl _)).SL (Nat.le_refl W3.heap.size)
        exact this
      have hb3w := Hb2.out.trans (hb3.mono Hb2.out.size)
      have HW3 := Lib.hid hW3.symm
      have Hone := Lib.hid hone
      have Hother := Lib.hid hother
      have Hb3 := Lib.hid hb3w
      have HSh3 := Lib.hid (HSh.out.up hb3w h0)
      obtain ⟨L1, hL1⟩ : ∃ L1, L1 = linkDo [o] := ⟨_, rfl⟩
      obtain ⟨L2, hL2⟩ : ∃ L2, L2 = linkDo (pickL o (turnK k tt k)) := ⟨_, rfl⟩
      have HL1 := Lib.hid hL1
      have HL2 := Lib.hid hL2
      clear hW3 hbW3 hO3 hone hother hb3 hb3w hL1 hL2
      rw [HW3.out]
      refine Do_calls [o] _ _ Hone.out HSh3.out _ (fun w4 v1 v2 hb4 hg4 hr4 => ?_)
      rw [← HL1.out] at hg4 hr4 ⊢
      obtain ⟨B1, m1, rfl, _, _, hg4⟩ := hg4.cases_
      obtain ⟨B2, m2, rfl, _, _, hr4⟩ := hr4.cases_
      obtain ⟨W5, hW5⟩ : ∃ W5, W5 = (w4.alloc (Obj.cells #[.slice B1 L1.1.globals.length m1, .slice B2 L1.1.routines.length m2] 34)).alloc (Obj.cells #[.int .i64 L1.2.1, .int .i64 L1.2.2] 36) := ⟨_, rfl⟩
      have hbW5 : Below w4.heap.size w4 W5 := by subst hW5; exact bl0
      have hI5 : W5.heap[w4.heap.size]? = some (.cells #[.slice B1 L1.1.globals.length m1, .slice B2 L1.1.routines.length m2] 34 (0, 0)) := by subst hW5; exact blk_alloc (heap_alloc_new _ _) _
      have hF5 : W5.heap[w4.heap.size + 1]? = some (.cells #[.int .i64 L1.2.1, .int .i64 L1.2.2] 36 (0, 0)) := by
        subst hW5
        have := heap_alloc_new (w4.alloc (Obj.cells #[.slice B1 L1.1.globals.length m1, .slice B2 L1.1.routines.length m2] 34)) (Obj.cells #[.int .i64 L1.2.1, .int .i64 L1.2.2] 36)
        simpa using this
      have hb35 := hb4.trans (hbW5.mono hb4.size)
      have hb5w := Hb3.out.trans (hb35.mono Hb3.out.size)
      have Hother5 := Lib.hid (Hother.out.up hb35 hb35.size)
      have HG5 := Lib.hid (hg4.up hbW5 hbW5.size)
      have HR5 := Lib.hid (hr4.up hbW5 hbW5.size)
      have HI5 := Lib.hid hI5
      have HF5 := Lib.hid hF5
      have Hb5 := Lib.hid hb5w
      have HSh5 := Lib.hid (HSh.out.up hb5w h0)
      have HW5 := Lib.hid hW5.symm
      clear hb4 hg4 hr4 hW5 hbW5 hI5 hF5 hb35 hb5w c0 c1
      go_upto_region 11 with fail
      rw [HW5.out]
      go_wp2_with fail
      refine Do_calls (pickL o (turnK k tt k)) _ _ Hother5.out HSh5.out _ (fun w6 v1 v2 hb6 hg6 hr6 => ?_)
      rw [← HL2.out] at hg6 hr6 ⊢
      obtain ⟨D1, m3, rfl, _, _, hg6⟩ := hg6.cases_
      obtain ⟨D2, m4, rfl, _, _, hr6⟩ := hr6.cases_
      obtain ⟨W7, hW7⟩ : ∃ W7, W7 = (w6.alloc (Obj.cells #[.slice D1 L2.1.globals.length m3, .slice D2 L2.1.routines.length m4] 34)).alloc (Obj.cells #[.int .i64 L2.2.1, .int .i64 L2.2.2] 36) := ⟨_, rfl⟩
      have hbW7 : Below w6.heap.size w6 W7 := by subst hW7; exact bl0
      have hI7 : W7.heap[w6.heap.size]? = some (.cells #[.slice D1 L2.1.globals.length m3, .slice D2 L2.1.routines.length m4] 34 (0, 0)) := by subst hW7; exact blk_alloc (heap_alloc_new _ _) _
      have hF7 : W7.heap[w6.heap.size + 1]? = some (.cells #[.int .i64 L2.2.1, .int .i64 L2.2.2] 36 (0, 0)) := by
        subst hW7
        have := heap_alloc_new (w6.alloc (Obj.cells #[.slice D1 L2.1.globals.length m3, .slice D2 L2.1.routines.length m4] 34)) (Obj.cells #[.int .i64 L2.2.1, .int .i64 L2.2.2] 36)
        simpa using this
      have hb57 := hb6.trans (hbW7.mono hb6.size)
      have hb7w := Hb5.out.trans (hb57.mono Hb5.out.size)
      have HG7 := Lib.hid (hg6.up hbW7 hbW7.size)
      have HR7 := Lib.hid (hr6.up hbW7 hbW7.size)
      have HG5' := Lib.hid (HG5.out.up hb57 hb57.size)
      have HR5' := Lib.hid (HR5.out.up hb57 hb57.size)
      have hI57 := (hb57.block _ (blk_lt HI5.out)).trans HI5.out
      have hF57 := (hb57.block _ (blk_lt HF5.out)).trans HF5.out
      obtain ⟨i0, i1⟩ := cells_blk hI57
      obtain ⟨f0, f1⟩ := cells_blk hF57
      obtain ⟨j0, j1⟩ := cells_blk hI7
      obtain ⟨g0, g1⟩ := cells_blk hF7
      have hl1 := blk_lt hI57
      have hl2 := blk_lt hF57
      have hl3 := blk_lt hI7
      have hl4 := blk_lt hF7
      have Hb7 := Lib.hid hb7w
      have HW7 := Lib.hid hW7.symm
      clear hb6 hg6 hr6 hW7 hbW7 hI7 hF7 hb57 hb7w hI57 hF57
      go_upto_region 12 with fail
      rw [HW7.out]
      rcases Nat.eq_zero_or_pos k with hk0 | hkp
      · have hsec : o.sections = [] := List.eq_nil_of_length_eq_zero (by rw [← Hhn.out]; exact hk0)
        have e1 : L1.2.1 = 6 := by rw [HL1.out]; exact none_do.2 o hsec (one_link Hok.out)
        have e2 : L2.2.1 = 6 := by rw [HL2.out, hk0]; exact none_do.1
        have z0 : ((k : Int) == 0) = true := by simp; omega
        rw [e1] at f0
        rw [e2] at g0
        have Hfin := Lib.hid (HR.out _ Hb7.out)
        clear e1 e2 hsec
        subst hk0
        go_wp2
        exact Hfin.out
      · have e12 : L2 = L1 := by
          rw [HL1.out, HL2.out]
          exact (apart_same Hok.out (Hmain.out (by rw [← Hhn.out]; exact hkp)) (by rw [turnK_len]; omega) (turnK_once hkp) (fun x => by rw [turnK_all hkp, ← Hhn.out])).symm
        subst e12
        have z0 : ((k : Int) == 0) = false := by simp; omega
        have hq : ∀ w, (binOp .eql 36 (.agg #[.int .i64 L2.2.1, .int .i64 L2.2.2]) (.agg #[.int .i64 L2.2.1, .int .i64 L2.2.2])).run Tryd.prog w = .ok (.bool true) w := fun w => by rw [eql_Fault]; simp
        go_wp2_with fail
        refine SameImage_calls L2.1 _ _ _ _ _ HG5'.out HR5'.out HG7.out HR7.out _ (fun w8 hb8 => ?_)
        have Hfin := Lib.hid (HR.out _ (Hb7.out.trans (hb8.mono Hb7.out.size)))
        clear hb8
        go_wp2
        exact Hfin.out
end Go.Proofs.YtegnemfjcmhncaaDoor
