/- turnerykit: numbers picked, digits, an instruction of raw numbers. -/
import Derived.Test.YtfhnmbnniklmiaaDoorBase
import Derived.Test.YtfhnmbnniklmiaaDoorRows
import Derived.IntWalk
import Derived.Deep.LoopGhost
import Derived.Deep.CutBlock
import Derived.Deep.DeepCutAuto
import Derived.Outline
import Derived.Test.YtfhnmbnniklmiaaDoorRefA
import Derived.Test.YtfhnmbnniklmiaaDoorCopyA
import Derived.Test.YtfhnmbnniklmiaaDoorReadC
import Derived.Test.YtfhnmbnniklmiaaDoorKitPl
namespace Go.Proofs.YtfhnmbnniklmiaaDoor
open Go.RowKit
set_option linter.unusedSimpArgs false
set_option linter.unusedVariables false

set_option maxHeartbeats 400000 in
theorem Picked_calls (a n : Int) (hn : 0 < n) (hm : n ≤ 1000000) (ha : I64 a) (w : World) (R : Ending → World → Prop) (hR : R (.returned (.int .i64 (a % n))) w) : Calls Tryd.prog 32 #[.int .i64 a, .int .i64 n] w R := by
  obtain ⟨h1, h2⟩ := ha
  have hne : (n == 0) = false := by simp; omega
  have hlt := Int.emod_lt_of_pos a hn
  have hge := Int.emod_nonneg a (show n ≠ 0 by omega)
  have he := @Int.tmod_eq_emod a n
  by_cases hc : 0 ≤ a ∨ n ∣ a
  · rw [if_pos hc] at he
    have ht : a.tmod n = a % n := by omega
    generalize a % n = r at *
    have Ht := Lib.hid ht
    clear he ht hc h1 h2
    by_cases h0 : 0 ≤ a.tmod n
    · go_enter Tryd.func32, Tryd.ntmps32
      go_wp2
      rw [← Ht.out] at hR
      exact hR
    · have := Ht.out
      omega
  · rw [if_neg hc] at he
    have ht : a.tmod n = a % n - n := by omega
    have hn0 : a % n ≠ 0 := fun e => hc (.inr (Int.dvd_of_emod_eq_zero e))
    generalize a % n = r at *
    have Ht := Lib.hid ht
    have h0 : a.tmod n < 0 := by omega
    have h5 : -1000000 ≤ a.tmod n := by omega
    clear he ht hc h1 h2
    go_enter Tryd.func32, Tryd.ntmps32
    go_wp2
    have e := Ht.out
    rw [show r = a.tmod n + n from by omega] at hR
    exact hR

theorem tdiv_I64 {b : Int} (h : I64 b) (k : Int) (hk : 2 ≤ k) : I64 (b.tdiv k) := by
  obtain ⟨h1, h2⟩ := h
  have e : (b.tdiv k).natAbs ≤ b.natAbs / 2 := by rw [Int.natAbs_tdiv]; exact Nat.div_le_div_left (by omega) (by decide)
  unfold I64
  omega

theorem wrap64_in {x : Int} (h : I64 x) : wrap64 x = x := by
  obtain ⟨h1, h2⟩ := h
  unfold wrap64
  omega

/-- The instruction that is made, in its variable; the result's variable. -/
def MidM (w : World) (V : Nat) (m : Mac) (wx : World) : Prop :=
  wx.heap[V]? = some (.cells m.arr 90 (0, 0)) ∧ wx.heap[w.heap.size]? = some (.cells #[.int .i64 0, .int .i64 0, .int .i64 0, .int .i64 0, .int .i64 0] 90 (0, 0)) ∧ Below w.heap.size w wx ∧ w.heap.size < V
theorem MidM.set {w wx : World} {V : Nat} {m : Mac} (h : MidM w V m wx) (k : Nat) (v : Int) (m' : Mac) (hm : m.arr.setIfInBounds k (.int .i64 v) = m'.arr) : MidM w V m' (wx.setCell ⟨V, k, none⟩ (.int .i64 v)) := by
  obtain ⟨h1, h2, h3, h4⟩ := h
  exact ⟨by rw [block_set h1, hm], blk_other h2 (by omega) _, h3.setCell (p := ⟨V, k, none⟩) (Nat.le_of_lt h4) _, h4⟩

theorem MidM.fin {w wx : World} {V : Nat} {m : Mac} (h : MidM w V m wx) :
    (((((wx.setCell ⟨w.heap.size, 0, none⟩ (.int .i64 m.op)).setCell ⟨w.heap.size, 1, none⟩ (.int .i64 m.dst)).setCell ⟨w.heap.size, 2, none⟩ (.int .i64 m.a)).setCell ⟨w.heap.size, 3, none⟩ (.int .i64 m.b)).setCell ⟨w.heap.size, 4, none⟩ (.int .i64 m.n)).heap[w.heap.size]? = some (.cells m.arr 90 (0, 0)) ∧
    Below w.heap.size w (((((wx.setCell ⟨w.heap.size, 0, none⟩ (.int .i64 m.op)).setCell ⟨w.heap.size, 1, none⟩ (.int .i64 m.dst)).setCell ⟨w.heap.size, 2, none⟩ (.int .i64 m.a)).setCell ⟨w.heap.size, 3, none⟩ (.int .i64 m.b)).setCell ⟨w.heap.size, 4, none⟩ (.int .i64 m.n)) :=
  ⟨five h.2.1 _ _ _ _ _, h.2.2.1.trans (below_five _ _ _ _ _)⟩
theorem MidM.frz {w wx : World} {V : Nat} {m : Mac} (h : MidM w V m wx) : (wx.frozen? ⟨w.heap.size, 0, none⟩ = false ∧ wx.frozen? ⟨w.heap.size, 1, none⟩ = false ∧ wx.frozen? ⟨w.heap.size, 2, none⟩ = false ∧ wx.frozen? ⟨w.heap.size, 3, none⟩ = false ∧ wx.frozen? ⟨w.heap.size, 4, none⟩ = false) ∧
    wx.cell? ⟨w.heap.size, 0, none⟩ = some (.int .i64 0) ∧ wx.cell? ⟨w.heap.size, 1, none⟩ = some (.int .i64 0) ∧ wx.cell? ⟨w.heap.size, 2, none⟩ = some (.int .i64 0) ∧ wx.cell? ⟨w.heap.size, 3, none⟩ = some (.int .i64 0) ∧ wx.cell? ⟨w.heap.size, 4, none⟩ = some (.int .i64 0) := by
  refine ⟨⟨?_, ?_, ?_, ?_, ?_⟩, ?_, ?_, ?_, ?_, ?_⟩ <;> simp [World.frozen?, World.cell?, h.2.1]

set_option maxRecDepth 100000 in
set_option maxHeartbeats 4000000 in
theorem MacOf_calls (a b n : Int) (many r : Nat) (ha : I64 a) (hb : I64 b) (hn : I64 n) (hm0 : 0 < many) (hm1 : many ≤ 1000000) (hr1 : r ≤ 1000000) (w : World) (R : Ending → World → Prop)
    (hR : ∀ w', Below w.heap.size w w' → R (.returned (.agg (macOf a b n many r).arr)) w') :
    Calls Tryd.prog 125 #[.int .i64 a, .int .i64 b, .int .i64 n, .int .i64 (many : Int), .int .i64 (r : Int)] w R := by
  have HR := Lib.hid hR
  have Ha := Lib.hid ha
  have Hb := Lib.hid hb
  have Hn := Lib.hid hn
  have hb4 := hb
  clear hR ha hb hn
  obtain ⟨hkn, hn45⟩ := opOf_known a r
  obtain ⟨f0, f1, f2, f3, f4, f5, f6, f7, f8, f9⟩ := fields_has _ hkn
  have Hop : Hid (opOf a r = if 1 + a % 47 = 45 ∨ (1 + a % 47 = 44 ∧ r = 0) then 47 else 1 + a % 47) := Lib.hid rfl
  have hrt := opOf_routine a r
  have hop1 : 1 ≤ opOf a r ∧ opOf a r ≤ 47 := by simpa [known] using hkn
  have HM : Hid (∀ op, op = opOf a r → macOf a b n many r = ⟨op, if (shapeOf op).d then b % 4 else 0, if (shapeOf op).a then b.tdiv 4 % 4 else 0, if (shapeOf op).b then b.tdiv 16 % 4 else 0, numOf op b n many r⟩) := Lib.hid fun op h => by subst h; rfl
  have h40 : 0 ≤ b % 4 ∧ b % 4 < 4 := ⟨Int.emod_nonneg b (by decide), Int.emod_lt_of_pos b (by decide)⟩
  have ht0 := Int.emod_nonneg a (show (47 : Int) ≠ 0 by decide)
  have ht1 := Int.emod_lt_of_pos a (show (0 : Int) < 47 by decide)
  go_enter Tryd.func125, Tryd.ntmps125
  go_wp2_with fail
  refine Picked_calls a 47 (by omega) (by omega) Ha.out _ _ ?_
  generalize a % 47 = t at *
  generalize opOf a r = op at *
  obtain ⟨q, hq⟩ : ∃ q : Bool, q = ((1 + t == 45) || ((1 + t == 44) && ((r : Int) == 0))) := ⟨_, rfl⟩
  have Hq := Lib.hid hq
  have hfirst : (q = true ∧ op = 47) ∨ (q = false ∧ op = 1 + t) := by
    rw [hq]
    have h := Hop.out
    by_cases h1 : 1 + t = 45
    · left
      rw [if_pos (.inl h1)] at h
      exact ⟨by simp [h1], h⟩
    · by_cases h2 : 1 + t = 44 ∧ r = 0
      · left
        rw [if_pos (.inr h2)] at h
        exact ⟨by simp [h2.1, h2.2], h⟩
      · right
        rw [if_neg (by omega)] at h
        refine ⟨?_, h⟩
        simp
        omega
  have Hfirst := Lib.hid hfirst
  have hz0 : (w.alloc (Obj.cells #[.int .i64 0, .int .i64 0, .int .i64 0, .int .i64 0, .int .i64 0] 90)).heap.size = w.heap.size + 1 := by simp
  obtain ⟨W0, hW0⟩ : ∃ W0, W0 = w.alloc (Obj.cells #[.int .i64 0, .int .i64 0, .int .i64 0, .int .i64 0, .int .i64 0] 90) := ⟨_, rfl⟩
  have hQ0 : W0.heap[w.heap.size]? = some (.cells #[.int .i64 0, .int .i64 0, .int .i64 0, .int .i64 0, .int .i64 0] 90 (0, 0)) := by subst hW0; exact heap_alloc_new _ _
  have hb0 : Below w.heap.size w W0 := by subst hW0; exact bl0
  rw [← hW0] at hz0
  clear hfirst hq
  go_upto_region 2 with fail
  rw [← hW0]
  clear hW0
  go_cut [26] (fun s26 wx => s26 = .bool q ∧ wx = W0)
  case first =>
    by_cases e1 : 1 + t = 45
    · have b1 : (1 + t == 45) = true := by simp [e1]
      clear e1
      go_wp2
      go_meet
      exact ⟨by rw [Hq.out, b1]; rfl, rfl⟩
    · have b1 : (1 + t == 45) = false := by simp [e1]
      by_cases e2 : 1 + t = 44
      · have b2 : (1 + t == 44) = true := by simp [e2]
        clear e1 e2
        go_wp2
        go_meet
        exact ⟨by rw [Hq.out, b1, b2]; simp, rfl⟩
      · have b2 : (1 + t == 44) = false := by simp [e2]
        clear e1 e2
        go_wp2
        go_meet
        exact ⟨by rw [Hq.out, b1, b2]; rfl, rfl⟩
  case rest =>
    obtain ⟨rfl, rfl⟩ := hcut
    rename World => W0
    go_upto_if 26 with fail
    go_cut [11] (fun s11 wx => s11 = .int .i64 op ∧ wx = W0)
    case first =>
      rcases Hfirst.out with ⟨rfl, he⟩ | ⟨rfl, he⟩
      · have Hop2 := Lib.hid he
        clear he
        go_wp2
        go_meet
        exact ⟨by rw [Hop2.out], rfl⟩
      · have Hop2 := Lib.hid he
        clear he
        go_wp2
        go_meet
        exact ⟨by rw [Hop2.out], rfl⟩
    case rest =>
      obtain ⟨rfl, rfl⟩ := hcut
      rename World => W0
      have G1 : Hid (hasN (fieldsOf op) 100 = (shapeOf op).d) := Lib.hid f2
      have G2 : Hid (hasN (fieldsOf op) 97 = (shapeOf op).a) := Lib.hid f3
      have G3 : Hid (hasN (fieldsOf op) 98 = (shapeOf op).b) := Lib.hid f4
      have G4 : Hid (hasN (fieldsOf op) 110 = ((shapeOf op).n == 1)) := Lib.hid f5
      have G5 : Hid (hasN (fieldsOf op) 116 = ((shapeOf op).n == 2)) := Lib.hid f6
      have G6 : Hid (hasN (fieldsOf op) 119 = ((shapeOf op).n == 3)) := Lib.hid f7
      have G7 : Hid (hasN (fieldsOf op) 114 = ((shapeOf op).n == 4)) := Lib.hid f8
      have Hsz : Hid ((fieldsOf op).size ≤ 100) := Lib.hid (by omega)
      have HQ0 := Lib.hid hQ0
      have Hb0 := Lib.hid hb0
      have HN : Hid (macOf a b n many r = ⟨op, if (shapeOf op).d then b % 4 else 0, if (shapeOf op).a then b.tdiv 4 % 4 else 0, if (shapeOf op).b then b.tdiv 16 % 4 else 0, numOf op b n many r⟩) := Lib.hid (HM.out op rfl)
      have Hrt := Lib.hid hrt
      have H9 := Lib.hid f9
      clear f0 f1 f2 f3 f4 f5 f6 f7 f8 f9 hrt hQ0 hb0 HM Hop Hfirst h40
      go_wp2_with fail
      refine Fields_calls op _ _ (fun w1 hb1 => ?_)
      have hz1 := hb1.size
      obtain ⟨W1, hW1⟩ : ∃ W1, W1 = w1.alloc (Obj.cells #[.int .i64 op, .int .i64 0, .int .i64 0, .int .i64 0, .int .i64 0] 90) := ⟨_, rfl⟩
      have hmid : MidM w w1.heap.size ⟨op, 0, 0, 0, 0⟩ W1 := by
        subst hW1
        refine ⟨heap_alloc_new _ _, blk_alloc ((hb1.block _ (by omega)).trans HQ0.out) _, (Hb0.out.trans (hb1.mono (by omega))).alloc (by omega) _, by omega⟩
      have hzW1 : W1.heap.size = w1.heap.size + 1 := by subst hW1; simp
      have hlV : w1.heap.size < W1.heap.size := by omega
      have hlw : w.heap.size < w1.heap.size := by omega
      have Hmid := Lib.hid hmid
      have HW1 := Lib.hid hW1.symm
      generalize fieldsOf op = f at *
      generalize hs : shapeOf op = s at *
      have Hs := Lib.hid hs
      have HNo : Hid (∀ x, numOf op b n many r = x → macOf a b n many r = ⟨op, if s.d then b % 4 else 0, if s.a then b.tdiv 4 % 4 else 0, if s.b then b.tdiv 16 % 4 else 0, x⟩) := Lib.hid fun x h => by rw [← h]; exact HN.out
      have Hb1 := Lib.hid hb1
      clear hb1 hmid hW1 hs HN
      have I4 : Hid (I64 (b.tdiv 4)) := Lib.hid (tdiv_I64 Hb.out 4 (by decide))
      have I16 : Hid (I64 (b.tdiv 16)) := Lib.hid (tdiv_I64 Hb.out 16 (by decide))
      have I6 : Hid (I64 (b.tdiv 64)) := Lib.hid (tdiv_I64 Hb.out 64 (by decide))
      have w4 : wrap64 (b.tdiv 4) = b.tdiv 4 := wrap64_in I4.out
      have w16 : wrap64 (b.tdiv 16) = b.tdiv 16 := wrap64_in I16.out
      have w64 : wrap64 (b.tdiv 64) = b.tdiv 64 := wrap64_in I6.out
      go_upto_if 32 with (go_at_call 100; refine Has_any f _ (by omega) (by omega) Hsz.out _ _ ?_)
      rw [G1.out]
      rw [HW1.out]
      go_cut [] (fun wx => MidM w w1.heap.size ⟨op, (if s.d then b % 4 else 0), 0, 0, 0⟩ wx)
      case first =>
        cases hd : s.d
        · have Hv := Lib.hid (show (if s.d then b % 4 else 0) = 0 from by rw [hd]; rfl)
          go_wp2
          go_meet
          rw [Hv.out]
          exact Hmid.out
        · have Hv := Lib.hid (show (if s.d then b % 4 else 0) = b % 4 from by rw [hd]; rfl)
          obtain ⟨a0, a1, a2, a3, a4, az⟩ := cells_of_arr Hmid.out.1
          have hset := Lib.hid (Hmid.out.set 1 (b % 4) ⟨op, b % 4, 0, 0, 0⟩ rfl)
          have hlV : w1.heap.size < W1.heap.size := blk_lt Hmid.out.1
          go_wp2_with fail
          refine Picked_calls b 4 (by omega) (by omega) Hb.out _ _ ?_
          generalize b % 4 = pv at *
          go_wp2
          go_meet
          rw [Hv.out]
          exact hset.out
      case rest =>
        rename World => w20
        have Hmid2 := Lib.hid hcut
        clear hcut
        go_upto_if 37 with (go_at_call 100; refine Has_any f _ (by omega) (by omega) Hsz.out _ _ ?_)
        rw [G2.out]
        go_cut [] (fun wx => MidM w w1.heap.size ⟨op, (if s.d then b % 4 else 0), (if s.a then b.tdiv 4 % 4 else 0), 0, 0⟩ wx)
        case first =>
          cases hd : s.a
          · have Hv := Lib.hid (show (if s.a then b.tdiv 4 % 4 else 0) = 0 from by rw [hd]; rfl)
            go_wp2
            go_meet
            rw [Hv.out]
            exact Hmid2.out
          · have Hv := Lib.hid (show (if s.a then b.tdiv 4 % 4 else 0) = b.tdiv 4 % 4 from by rw [hd]; rfl)
            obtain ⟨a0, a1, a2, a3, a4, az⟩ := cells_of_arr Hmid2.out.1
            have hset := Lib.hid (Hmid2.out.set 2 (b.tdiv 4 % 4) ⟨op, (if s.d then b % 4 else 0), b.tdiv 4 % 4, 0, 0⟩ rfl)
            have hlV : w1.heap.size < w20.heap.size := blk_lt Hmid2.out.1
            go_wp2_with fail
            refine Picked_calls (b.tdiv 4) 4 (by omega) (by omega) I4.out _ _ ?_
            generalize b.tdiv 4 % 4 = pv at *
            go_wp2
            go_meet
            rw [Hv.out]
            exact hset.out
        case rest =>
          rename World => w30
          have Hmid3 := Lib.hid hcut
          clear hcut
          go_upto_if 43 with (go_at_call 100; refine Has_any f _ (by omega) (by omega) Hsz.out _ _ ?_)
          rw [G3.out]
          go_cut [] (fun wx => MidM w w1.heap.size ⟨op, (if s.d then b % 4 else 0), (if s.a then b.tdiv 4 % 4 else 0), (if s.b then b.tdiv 16 % 4 else 0), 0⟩ wx)
          case first =>
            cases hd : s.b
            · have Hv := Lib.hid (show (if s.b then b.tdiv 16 % 4 else 0) = 0 from by rw [hd]; rfl)
              go_wp2
              go_meet
              rw [Hv.out]
              exact Hmid3.out
            · have Hv := Lib.hid (show (if s.b then b.tdiv 16 % 4 else 0) = b.tdiv 16 % 4 from by rw [hd]; rfl)
              obtain ⟨a0, a1, a2, a3, a4, az⟩ := cells_of_arr Hmid3.out.1
              have hset := Lib.hid (Hmid3.out.set 3 (b.tdiv 16 % 4) ⟨op, (if s.d then b % 4 else 0), (if s.a then b.tdiv 4 % 4 else 0), b.tdiv 16 % 4, 0⟩ rfl)
              have hlV : w1.heap.size < w30.heap.size := blk_lt Hmid3.out.1
              go_wp2_with fail
              refine Picked_calls (b.tdiv 16) 4 (by omega) (by omega) I16.out _ _ ?_
              generalize b.tdiv 16 % 4 = pv at *
              go_wp2
              go_meet
              rw [Hv.out]
              exact hset.out
          case rest =>
            rename World => w40
            have Hmid4 := Lib.hid hcut
            clear hcut
            generalize (if s.d then b % 4 else 0) = vd at *
            generalize (if s.a then b.tdiv 4 % 4 else 0) = va at *
            generalize (if s.b then b.tdiv 16 % 4 else 0) = vb at *
            obtain ⟨a0, a1, a2, a3, a4, az⟩ := cells_of_arr Hmid4.out.1
            obtain ⟨⟨z0, z1, z2, z3, z4⟩, c0, c1, c2, c3, c4⟩ := Hmid4.out.frz
            have hlV : w1.heap.size < w40.heap.size := blk_lt Hmid4.out.1
            have hlW : w.heap.size < w40.heap.size := by omega
            rcases H9.out with e | e | e | e | e
            · have k4 : hasN f 110 = false := by rw [G4.out, e]; rfl
              have k5 : hasN f 116 = false := by rw [G5.out, e]; rfl
              have k6 : hasN f 119 = false := by rw [G6.out, e]; rfl
              have k7 : hasN f 114 = false := by rw [G7.out, e]; rfl
              have Hval := Lib.hid (HNo.out 0 (by unfold numOf; rw [Hs.out, e]; rfl))
              have hfin := Lib.hid Hmid4.out.fin
              clear e
              go_wp2_with (first | (go_at_call 100; refine Has_any f _ (by omega) (by omega) Hsz.out _ _ ?_) | (go_at_call 32; first | with_reducible refine Picked_calls n 7 (by omega) (by omega) Hn.out _ _ ?_ | with_reducible refine Picked_calls n 4 (by omega) (by omega) Hn.out _ _ ?_ | with_reducible refine Picked_calls (b.tdiv 64) 4 (by omega) (by omega) I6.out _ _ ?_ | with_reducible refine Picked_calls n (many : Int) (by omega) (by omega) Hn.out _ _ ?_ | with_reducible refine Picked_calls n (r : Int) (by omega) (by omega) Hn.out _ _ ?_))
              refine bodyPost_ret (v := .agg (⟨op, vd, va, vb, 0⟩ : Mac).arr) (res_Mac (T := 90) (by rfl) (by rfl) hfin.out.1) rfl ?_
              rw [← Hval.out]
              exact HR.out _ hfin.out.2
            · have k4 : hasN f 110 = true := by rw [G4.out, e]; rfl
              have k5 : hasN f 116 = false := by rw [G5.out, e]; rfl
              have k6 : hasN f 119 = false := by rw [G6.out, e]; rfl
              have k7 : hasN f 114 = false := by rw [G7.out, e]; rfl
              by_cases hq : 33 ≤ op ∨ 0 < b.tdiv 64 % 4
              · have Hval := Lib.hid (HNo.out (n % 7 - 1) (by unfold numOf; rw [Hs.out, e, if_pos rfl, if_pos hq]))
                have hfin := Lib.hid ((Hmid4.out.set 4 n ⟨op, vd, va, vb, n⟩ rfl).set 4 (n % 7 - 1) ⟨op, vd, va, vb, n % 7 - 1⟩ rfl).fin
                have n0 := Int.emod_nonneg n (show (7 : Int) ≠ 0 by decide)
                have n1 := Int.emod_lt_of_pos n (show (0 : Int) < 7 by decide)
                have n2 : IntKind.i64.wrap (n % 7 - 1) = n % 7 - 1 := IntWalk.i64_in _ (by omega)
                by_cases hq1 : 33 ≤ op
                · clear e hq
                  go_wp2_with (first | (go_at_call 100; refine Has_any f _ (by omega) (by omega) Hsz.out _ _ ?_) | (go_at_call 32; first | with_reducible refine Picked_calls n 7 (by omega) (by omega) Hn.out _ _ ?_ | with_reducible refine Picked_calls n 4 (by omega) (by omega) Hn.out _ _ ?_ | with_reducible refine Picked_calls (b.tdiv 64) 4 (by omega) (by omega) I6.out _ _ ?_ | with_reducible refine Picked_calls n (many : Int) (by omega) (by omega) Hn.out _ _ ?_ | with_reducible refine Picked_calls n (r : Int) (by omega) (by omega) Hn.out _ _ ?_))
                  refine bodyPost_ret (v := .agg (⟨op, vd, va, vb, n % 7 - 1⟩ : Mac).arr) (res_Mac (T := 90) (by rfl) (by rfl) hfin.out.1) rfl ?_
                  rw [← Hval.out]
                  exact HR.out _ hfin.out.2
                · have hq2 : 0 < b.tdiv 64 % 4 := by omega
                  clear e hq
                  go_wp2_with (first | (go_at_call 100; refine Has_any f _ (by omega) (by omega) Hsz.out _ _ ?_) | (go_at_call 32; first | with_reducible refine Picked_calls n 7 (by omega) (by omega) Hn.out _ _ ?_ | with_reducible refine Picked_calls n 4 (by omega) (by omega) Hn.out _ _ ?_ | with_reducible refine Picked_calls (b.tdiv 64) 4 (by omega) (by omega) I6.out _ _ ?_ | with_reducible refine Picked_calls n (many : Int) (by omega) (by omega) Hn.out _ _ ?_ | with_reducible refine Picked_calls n (r : Int) (by omega) (by omega) Hn.out _ _ ?_))
                  refine bodyPost_ret (v := .agg (⟨op, vd, va, vb, n % 7 - 1⟩ : Mac).arr) (res_Mac (T := 90) (by rfl) (by rfl) hfin.out.1) rfl ?_
                  rw [← Hval.out]
                  exact HR.out _ hfin.out.2
              · have Hval := Lib.hid (HNo.out n (by unfold numOf; rw [Hs.out, e, if_pos rfl, if_neg hq]))
                have hfin := Lib.hid (Hmid4.out.set 4 n ⟨op, vd, va, vb, n⟩ rfl).fin
                have hq1 : ¬ 33 ≤ op := by omega
                have hq2 : ¬ 0 < b.tdiv 64 % 4 := by omega
                clear e hq
                go_wp2_with (first | (go_at_call 100; refine Has_any f _ (by omega) (by omega) Hsz.out _ _ ?_) | (go_at_call 32; first | with_reducible refine Picked_calls n 7 (by omega) (by omega) Hn.out _ _ ?_ | with_reducible refine Picked_calls n 4 (by omega) (by omega) Hn.out _ _ ?_ | with_reducible refine Picked_calls (b.tdiv 64) 4 (by omega) (by omega) I6.out _ _ ?_ | with_reducible refine Picked_calls n (many : Int) (by omega) (by omega) Hn.out _ _ ?_ | with_reducible refine Picked_calls n (r : Int) (by omega) (by omega) Hn.out _ _ ?_))
                refine bodyPost_ret (v := .agg (⟨op, vd, va, vb, n⟩ : Mac).arr) (res_Mac (T := 90) (by rfl) (by rfl) hfin.out.1) rfl ?_
                rw [← Hval.out]
                exact HR.out _ hfin.out.2
            · have k4 : hasN f 110 = false := by rw [G4.out, e]; rfl
              have k5 : hasN f 116 = true := by rw [G5.out, e]; rfl
              have k6 : hasN f 119 = false := by rw [G6.out, e]; rfl
              have k7 : hasN f 114 = false := by rw [G7.out, e]; rfl
              have Hval := Lib.hid (HNo.out (n % (many : Int)) (by unfold numOf; rw [Hs.out, e]; rfl))
              have hfin := Lib.hid (Hmid4.out.set 4 (n % (many : Int)) ⟨op, vd, va, vb, n % (many : Int)⟩ rfl).fin
              clear e
              go_wp2_with (first | (go_at_call 100; refine Has_any f _ (by omega) (by omega) Hsz.out _ _ ?_) | (go_at_call 32; first | with_reducible refine Picked_calls n 7 (by omega) (by omega) Hn.out _ _ ?_ | with_reducible refine Picked_calls n 4 (by omega) (by omega) Hn.out _ _ ?_ | with_reducible refine Picked_calls (b.tdiv 64) 4 (by omega) (by omega) I6.out _ _ ?_ | with_reducible refine Picked_calls n (many : Int) (by omega) (by omega) Hn.out _ _ ?_ | with_reducible refine Picked_calls n (r : Int) (by omega) (by omega) Hn.out _ _ ?_))
              refine bodyPost_ret (v := .agg (⟨op, vd, va, vb, n % (many : Int)⟩ : Mac).arr) (res_Mac (T := 90) (by rfl) (by rfl) hfin.out.1) rfl ?_
              rw [← Hval.out]
              exact HR.out _ hfin.out.2
            · have k4 : hasN f 110 = false := by rw [G4.out, e]; rfl
              have k5 : hasN f 116 = false := by rw [G5.out, e]; rfl
              have k6 : hasN f 119 = true := by rw [G6.out, e]; rfl
              have k7 : hasN f 114 = false := by rw [G7.out, e]; rfl
              have Hval := Lib.hid (HNo.out (n % 4) (by unfold numOf; rw [Hs.out, e]; rfl))
              have hfin := Lib.hid (Hmid4.out.set 4 (n % 4) ⟨op, vd, va, vb, n % 4⟩ rfl).fin
              clear e
              go_wp2_with (first | (go_at_call 100; refine Has_any f _ (by omega) (by omega) Hsz.out _ _ ?_) | (go_at_call 32; first | with_reducible refine Picked_calls n 7 (by omega) (by omega) Hn.out _ _ ?_ | with_reducible refine Picked_calls n 4 (by omega) (by omega) Hn.out _ _ ?_ | with_reducible refine Picked_calls (b.tdiv 64) 4 (by omega) (by omega) I6.out _ _ ?_ | with_reducible refine Picked_calls n (many : Int) (by omega) (by omega) Hn.out _ _ ?_ | with_reducible refine Picked_calls n (r : Int) (by omega) (by omega) Hn.out _ _ ?_))
              refine bodyPost_ret (v := .agg (⟨op, vd, va, vb, n % 4⟩ : Mac).arr) (res_Mac (T := 90) (by rfl) (by rfl) hfin.out.1) rfl ?_
              rw [← Hval.out]
              exact HR.out _ hfin.out.2
            · have k4 : hasN f 110 = false := by rw [G4.out, e]; rfl
              have k5 : hasN f 116 = false := by rw [G5.out, e]; rfl
              have k6 : hasN f 119 = false := by rw [G6.out, e]; rfl
              have k7 : hasN f 114 = true := by rw [G7.out, e]; rfl
              have hr0 : 0 < r := Hrt.out e
              have Hval := Lib.hid (HNo.out (n % (r : Int)) (by unfold numOf; rw [Hs.out, e]; rfl))
              have hfin := Lib.hid (Hmid4.out.set 4 (n % (r : Int)) ⟨op, vd, va, vb, n % (r : Int)⟩ rfl).fin
              clear e
              go_wp2_with (first | (go_at_call 100; refine Has_any f _ (by omega) (by omega) Hsz.out _ _ ?_) | (go_at_call 32; first | with_reducible refine Picked_calls n 7 (by omega) (by omega) Hn.out _ _ ?_ | with_reducible refine Picked_calls n 4 (by omega) (by omega) Hn.out _ _ ?_ | with_reducible refine Picked_calls (b.tdiv 64) 4 (by omega) (by omega) I6.out _ _ ?_ | with_reducible refine Picked_calls n (many : Int) (by omega) (by omega) Hn.out _ _ ?_ | with_reducible refine Picked_calls n (r : Int) (by omega) (by omega) Hn.out _ _ ?_))
              refine bodyPost_ret (v := .agg (⟨op, vd, va, vb, n % (r : Int)⟩ : Mac).arr) (res_Mac (T := 90) (by rfl) (by rfl) hfin.out.1) rfl ?_
              rw [← Hval.out]
              exact HR.out _ hfin.out.2
end Go.Proofs.YtfhnmbnniklmiaaDoor
