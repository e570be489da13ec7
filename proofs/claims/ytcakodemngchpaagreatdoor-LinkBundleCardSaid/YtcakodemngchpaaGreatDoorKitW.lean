/- turnerykit: numbers picked, digits, an instruction of raw numbers. R.MacBytes: the bytes of an instruction. R.CodeBytes: the bytes of instructions. -/
import Derived.Test.YtcakodemngchpaaGreatDoorBase
import Derived.Test.YtcakodemngchpaaGreatDoorRows
import Derived.IntWalk
import Derived.Deep.LoopGhost
import Derived.Deep.CutBlock
import Derived.Deep.DeepCutAuto
import Derived.Outline
import Derived.Test.YtcakodemngchpaaGreatDoorRefA
import Derived.Test.YtcakodemngchpaaGreatDoorCopyA
import Derived.Test.YtcakodemngchpaaGreatDoorReadC
import Derived.Test.YtcakodemngchpaaGreatDoorKitPl
import Derived.Test.YtcakodemngchpaaGreatDoorSaveA
import Derived.Test.YtcakodemngchpaaGreatDoorLoadA
/- turnerykit: numbers picked, digits, an instruction of raw numbers. -/
namespace Go.Proofs.YtcakodemngchpaaGreatDoor
open Go.RowKit
set_option linter.unusedSimpArgs false
set_option linter.unusedVariables false

set_option maxHeartbeats 400000 in
theorem Picked_calls (a n : Int) (hn : 0 < n) (hm : n ≤ 1000000) (ha : I64 a) (w : World) (R : Ending → World → Prop) (hR : R (.returned (.int .i64 (a % n))) w) : Calls Tryz.prog 84 #[.int .i64 a, .int .i64 n] w R := by
  obtain ⟨h1, h2⟩ := ha
  have hne : (n == 0) = false := by simp; omega
  have hlt := Int.emod_lt_of_pos a hn
  have hge := Int.emod_nonneg a (show n ≠ 0 by omega)
  have he := @Int.tmod_eq_emod a n
  by_cases hc : 0 ≤ a ∨ n ∣ a
  · rw [if_pos hc] at he
    have ht : a.tmod n = a % n := by omega
    generalize a % n = r at *
    have Ht := Lib.hid ht
    clear he ht hc h1 h2
    by_cases h0 : 0 ≤ a.tmod n
    · go_enter Tryz.func84, Tryz.ntmps84
      go_wp2
      rw [← Ht.out] at hR
      exact hR
    · have := Ht.out
      omega
  · rw [if_neg hc] at he
    have ht : a.tmod n = a % n - n := by omega
    have hn0 : a % n ≠ 0 := fun e => hc (.inr (Int.dvd_of_emod_eq_zero e))
    generalize a % n = r at *
    have Ht := Lib.hid ht
    have h0 : a.tmod n < 0 := by omega
    have h5 : -1000000 ≤ a.tmod n := by omega
    clear he ht hc h1 h2
    go_enter Tryz.func84, Tryz.ntmps84
    go_wp2
    have e := Ht.out
    rw [show r = a.tmod n + n from by omega] at hR
    exact hR

theorem tdiv_I64 {b : Int} (h : I64 b) (k : Int) (hk : 2 ≤ k) : I64 (b.tdiv k) := by
  obtain ⟨h1, h2⟩ := h
  have e : (b.tdiv k).natAbs ≤ b.natAbs / 2 := by rw [Int.natAbs_tdiv]; exact Nat.div_le_div_left (by omega) (by decide)
  unfold I64
  omega

theorem wrap64_in {x : Int} (h : I64 x) : wrap64 x = x := by
  obtain ⟨h1, h2⟩ := h
  unfold wrap64
  omega

/-- The instruction that is made, in its variable; the result's variable. -/
def MidM (w : World) (V : Nat) (m : Mac) (wx : World) : Prop :=
  wx.heap[V]? = some (.cells m.arr 54 (0, 0)) ∧ wx.heap[w.heap.size]? = some (.cells #[.int .i64 0, .int .i64 0, .int .i64 0, .int .i64 0, .int .i64 0] 54 (0, 0)) ∧ Below w.heap.size w wx ∧ w.heap.size < V
theorem MidM.set {w wx : World} {V : Nat} {m : Mac} (h : MidM w V m wx) (k : Nat) (v : Int) (m' : Mac) (hm : m.arr.setIfInBounds k (.int .i64 v) = m'.arr) : MidM w V m' (wx.setCell ⟨V, k, none⟩ (.int .i64 v)) := by
  obtain ⟨h1, h2, h3, h4⟩ := h
  exact ⟨by rw [block_set h1, hm], blk_other h2 (by omega) _, h3.setCell (p := ⟨V, k, none⟩) (Nat.le_of_lt h4) _, h4⟩

theorem MidM.fin {w wx : World} {V : Nat} {m : Mac} (h : MidM w V m wx) :
    (((((wx.setCell ⟨w.heap.size, 0, none⟩ (.int .i64 m.op)).setCell ⟨w.heap.size, 1, none⟩ (.int .i64 m.dst)).setCell ⟨w.heap.size, 2, none⟩ (.int .i64 m.a)).setCell ⟨w.heap.size, 3, none⟩ (.int .i64 m.b)).setCell ⟨w.heap.size, 4, none⟩ (.int .i64 m.n)).heap[w.heap.size]? = some (.cells m.arr 54 (0, 0)) ∧
    Below w.heap.size w (((((wx.setCell ⟨w.heap.size, 0, none⟩ (.int .i64 m.op)).setCell ⟨w.heap.size, 1, none⟩ (.int .i64 m.dst)).setCell ⟨w.heap.size, 2, none⟩ (.int .i64 m.a)).setCell ⟨w.heap.size, 3, none⟩ (.int .i64 m.b)).setCell ⟨w.heap.size, 4, none⟩ (.int .i64 m.n)) :=
  ⟨five h.2.1 _ _ _ _ _, h.2.2.1.trans (below_five _ _ _ _ _)⟩
theorem MidM.frz {w wx : World} {V : Nat} {m : Mac} (h : MidM w V m wx) : (wx.frozen? ⟨w.heap.size, 0, none⟩ = false ∧ wx.frozen? ⟨w.heap.size, 1, none⟩ = false ∧ wx.frozen? ⟨w.heap.size, 2, none⟩ = false ∧ wx.frozen? ⟨w.heap.size, 3, none⟩ = false ∧ wx.frozen? ⟨w.heap.size, 4, none⟩ = false) ∧
    wx.cell? ⟨w.heap.size, 0, none⟩ = some (.int .i64 0) ∧ wx.cell? ⟨w.heap.size, 1, none⟩ = some (.int .i64 0) ∧ wx.cell? ⟨w.heap.size, 2, none⟩ = some (.int .i64 0) ∧ wx.cell? ⟨w.heap.size, 3, none⟩ = some (.int .i64 0) ∧ wx.cell? ⟨w.heap.size, 4, none⟩ = some (.int .i64 0) := by
  refine ⟨⟨?_, ?_, ?_, ?_, ?_⟩, ?_, ?_, ?_, ?_, ?_⟩ <;> simp [World.frozen?, World.cell?, h.2.1]

set_option maxRecDepth 100000 in
set_option maxHeartbeats 4000000 in
theorem MacOf_calls (a b n : Int) (many r : Nat) (ha : I64 a) (hb : I64 b) (hn : I64 n) (hm0 : 0 < many) (hm1 : many ≤ 1000000) (hr1 : r ≤ 1000000) (w : World) (R : Ending → World → Prop)
    (hR : ∀ w', Below w.heap.size w w' → R (.returned (.agg (macOf a b n many r).arr)) w') :
    Calls Tryz.prog 52 #[.int .i64 a, .int .i64 b, .int .i64 n, .int .i64 (many : Int), .int .i64 (r : Int)] w R := by
  have HR := Lib.hid hR
  have Ha := Lib.hid ha
  have Hb := Lib.hid hb
  have Hn := Lib.hid hn
  have hb4 := hb
  clear hR ha hb hn
  obtain ⟨hkn, hn45⟩ := opOf_known a r
  obtain ⟨f0, f1, f2, f3, f4, f5, f6, f7, f8, f9⟩ := fields_has _ hkn
  have Hop : Hid (opOf a r = if 1 + a % 47 = 45 ∨ (1 + a % 47 = 44 ∧ r = 0) then 47 else 1 + a % 47) := Lib.hid rfl
  have hrt := opOf_routine a r
  have hop1 : 1 ≤ opOf a r ∧ opOf a r ≤ 47 := by simpa [known] using hkn
  have HM : Hid (∀ op, op = opOf a r → macOf a b n many r = ⟨op, if (shapeOf op).d then b % 4 else 0, if (shapeOf op).a then b.tdiv 4 % 4 else 0, if (shapeOf op).b then b.tdiv 16 % 4 else 0, numOf op b n many r⟩) := Lib.hid fun op h => by subst h; rfl
  have h40 : 0 ≤ b % 4 ∧ b % 4 < 4 := ⟨Int.emod_nonneg b (by decide), Int.emod_lt_of_pos b (by decide)⟩
  have ht0 := Int.emod_nonneg a (show (47 : Int) ≠ 0 by decide)
  have ht1 := Int.emod_lt_of_pos a (show (0 : Int) < 47 by decide)
  go_enter Tryz.func52, Tryz.ntmps52
  go_wp2_with fail
  refine Picked_calls a 47 (by omega) (by omega) Ha.out _ _ ?_
  generalize a % 47 = t at *
  generalize opOf a r = op at *
  obtain ⟨q, hq⟩ : ∃ q : Bool, q = ((1 + t == 45) || ((1 + t == 44) && ((r : Int) == 0))) := ⟨_, rfl⟩
  have Hq := Lib.hid hq
  have hfirst : (q = true ∧ op = 47) ∨ (q = false ∧ op = 1 + t) := by
    rw [hq]
    have h := Hop.out
    by_cases h1 : 1 + t = 45
    · left
      rw [if_pos (.inl h1)] at h
      exact ⟨by simp [h1], h⟩
    · by_cases h2 : 1 + t = 44 ∧ r = 0
      · left
        rw [if_pos (.inr h2)] at h
        exact ⟨by simp [h2.1, h2.2], h⟩
      · right
        rw [if_neg (by omega)] at h
        refine ⟨?_, h⟩
        simp
        omega
  have Hfirst := Lib.hid hfirst
  have hz0 : (w.alloc (Obj.cells #[.int .i64 0, .int .i64 0, .int .i64 0, .int .i64 0, .int .i64 0] 54)).heap.size = w.heap.size + 1 := by simp
  obtain ⟨W0, hW0⟩ : ∃ W0, W0 = w.alloc (Obj.cells #[.int .i64 0, .int .i64 0, .int .i64 0, .int .i64 0, .int .i64 0] 54) := ⟨_, rfl⟩
  have hQ0 : W0.heap[w.heap.size]? = some (.cells #[.int .i64 0, .int .i64 0, .int .i64 0, .int .i64 0, .int .i64 0] 54 (0, 0)) := by subst hW0; exact heap_alloc_new _ _
  have hb0 : Below w.heap.size w W0 := by subst hW0; exact bl0
  rw [← hW0] at hz0
  clear hfirst hq
  go_upto_region 2 with fail
  rw [← hW0]
  clear hW0
  go_cut [26] (fun s26 wx => s26 = .bool q ∧ wx = W0)
  case first =>
    by_cases e1 : 1 + t = 45
    · have b1 : (1 + t == 45) = true := by simp [e1]
      clear e1
      go_wp2
      go_meet
      exact ⟨by rw [Hq.out, b1]; rfl, rfl⟩
    · have b1 : (1 + t == 45) = false := by simp [e1]
      by_cases e2 : 1 + t = 44
      · have b2 : (1 + t == 44) = true := by simp [e2]
        clear e1 e2
        go_wp2
        go_meet
        exact ⟨by rw [Hq.out, b1, b2]; simp, rfl⟩
      · have b2 : (1 + t == 44) = false := by simp [e2]
        clear e1 e2
        go_wp2
        go_meet
        exact ⟨by rw [Hq.out, b1, b2]; rfl, rfl⟩
  case rest =>
    obtain ⟨rfl, rfl⟩ := hcut
    rename World => W0
    go_upto_if 26 with fail
    go_cut [11] (fun s11 wx => s11 = .int .i64 op ∧ wx = W0)
    case first =>
      rcases Hfirst.out with ⟨rfl, he⟩ | ⟨rfl, he⟩
      · have Hop2 := Lib.hid he
        clear he
        go_wp2
        go_meet
        exact ⟨by rw [Hop2.out], rfl⟩
      · have Hop2 := Lib.hid he
        clear he
        go_wp2
        go_meet
        exact ⟨by rw [Hop2.out], rfl⟩
    case rest =>
      obtain ⟨rfl, rfl⟩ := hcut
      rename World => W0
      have G1 : Hid (hasN (fieldsOf op) 100 = (shapeOf op).d) := Lib.hid f2
      have G2 : Hid (hasN (fieldsOf op) 97 = (shapeOf op).a) := Lib.hid f3
      have G3 : Hid (hasN (fieldsOf op) 98 = (shapeOf op).b) := Lib.hid f4
      have G4 : Hid (hasN (fieldsOf op) 110 = ((shapeOf op).n == 1)) := Lib.hid f5
      have G5 : Hid (hasN (fieldsOf op) 116 = ((shapeOf op).n == 2)) := Lib.hid f6
      have G6 : Hid (hasN (fieldsOf op) 119 = ((shapeOf op).n == 3)) := Lib.hid f7
      have G7 : Hid (hasN (fieldsOf op) 114 = ((shapeOf op).n == 4)) := Lib.hid f8
      have Hsz : Hid ((fieldsOf op).size ≤ 100) := Lib.hid (by omega)
      have HQ0 := Lib.hid hQ0
      have Hb0 := Lib.hid hb0
      have HN : Hid (macOf a b n many r = ⟨op, if (shapeOf op).d then b % 4 else 0, if (shapeOf op).a then b.tdiv 4 % 4 else 0, if (shapeOf op).b then b.tdiv 16 % 4 else 0, numOf op b n many r⟩) := Lib.hid (HM.out op rfl)
      have Hrt := Lib.hid hrt
      have H9 := Lib.hid f9
      clear f0 f1 f2 f3 f4 f5 f6 f7 f8 f9 hrt hQ0 hb0 HM Hop Hfirst h40
      go_wp2_with fail
      refine Fields_calls op _ _ (fun w1 hb1 => ?_)
      have hz1 := hb1.size
      obtain ⟨W1, hW1⟩ : ∃ W1, W1 = w1.alloc (Obj.cells #[.int .i64 op, .int .i64 0, .int .i64 0, .int .i64 0, .int .i64 0] 54) := ⟨_, rfl⟩
      have hmid : MidM w w1.heap.size ⟨op, 0, 0, 0, 0⟩ W1 := by
        subst hW1
        refine ⟨heap_alloc_new _ _, blk_alloc ((hb1.block _ (by omega)).trans HQ0.out) _, (Hb0.out.trans (hb1.mono (by omega))).alloc (by omega) _, by omega⟩
      have hzW1 : W1.heap.size = w1.heap.size + 1 := by subst hW1; simp
      have hlV : w1.heap.size < W1.heap.size := by omega
      have hlw : w.heap.size < w1.heap.size := by omega
      have Hmid := Lib.hid hmid
      have HW1 := Lib.hid hW1.symm
      generalize fieldsOf op = f at *
      generalize hs : shapeOf op = s at *
      have Hs := Lib.hid hs
      have HNo : Hid (∀ x, numOf op b n many r = x → macOf a b n many r = ⟨op, if s.d then b % 4 else 0, if s.a then b.tdiv 4 % 4 else 0, if s.b then b.tdiv 16 % 4 else 0, x⟩) := Lib.hid fun x h => by rw [← h]; exact HN.out
      have Hb1 := Lib.hid hb1
      clear hb1 hmid hW1 hs HN
      have I4 : Hid (I64 (b.tdiv 4)) := Lib.hid (tdiv_I64 Hb.out 4 (by decide))
      have I16 : Hid (I64 (b.tdiv 16)) := Lib.hid (tdiv_I64 Hb.out 16 (by decide))
      have I6 : Hid (I64 (b.tdiv 64)) := Lib.hid (tdiv_I64 Hb.out 64 (by decide))
      have w4 : wrap64 (b.tdiv 4) = b.tdiv 4 := wrap64_in I4.out
      have w16 : wrap64 (b.tdiv 16) = b.tdiv 16 := wrap64_in I16.out
      have w64 : wrap64 (b.tdiv 64) = b.tdiv 64 := wrap64_in I6.out
      go_upto_if 32 with (go_at_call 67; refine Has_any f _ (by omega) (by omega) Hsz.out _ _ ?_)
      rw [G1.out]
      rw [HW1.out]
      go_cut [] (fun wx => MidM w w1.heap.size ⟨op, (if s.d then b % 4 else 0), 0, 0, 0⟩ wx)
      case first =>
        cases hd : s.d
        · have Hv := Lib.hid (show (if s.d then b % 4 else 0) = 0 from by rw [hd]; rfl)
          go_wp2
          go_meet
          rw [Hv.out]
          exact Hmid.out
        · have Hv := Lib.hid (show (if s.d then b % 4 else 0) = b % 4 from by rw [hd]; rfl)
          obtain ⟨a0, a1, a2, a3, a4, az⟩ := cells_of_arr Hmid.out.1
          have hset := Lib.hid (Hmid.out.set 1 (b % 4) ⟨op, b % 4, 0, 0, 0⟩ rfl)
          have hlV : w1.heap.size < W1.heap.size := blk_lt Hmid.out.1
          go_wp2_with fail
          refine Picked_calls b 4 (by omega) (by omega) Hb.out _ _ ?_
          generalize b % 4 = pv at *
          go_wp2
          go_meet
          rw [Hv.out]
          exact hset.out
      case rest =>
        rename World => w20
        have Hmid2 := Lib.hid hcut
        clear hcut
        go_upto_if 37 with (go_at_call 67; refine Has_any f _ (by omega) (by omega) Hsz.out _ _ ?_)
        rw [G2.out]
        go_cut [] (fun wx => MidM w w1.heap.size ⟨op, (if s.d then b % 4 else 0), (if s.a then b.tdiv 4 % 4 else 0), 0, 0⟩ wx)
        case first =>
          cases hd : s.a
          · have Hv := Lib.hid (show (if s.a then b.tdiv 4 % 4 else 0) = 0 from by rw [hd]; rfl)
            go_wp2
            go_meet
            rw [Hv.out]
            exact Hmid2.out
          · have Hv := Lib.hid (show (if s.a then b.tdiv 4 % 4 else 0) = b.tdiv 4 % 4 from by rw [hd]; rfl)
            obtain ⟨a0, a1, a2, a3, a4, az⟩ := cells_of_arr Hmid2.out.1
            have hset := Lib.hid (Hmid2.out.set 2 (b.tdiv 4 % 4) ⟨op, (if s.d then b % 4 else 0), b.tdiv 4 % 4, 0, 0⟩ rfl)
            have hlV : w1.heap.size < w20.heap.size := blk_lt Hmid2.out.1
            go_wp2_with fail
            refine Picked_calls (b.tdiv 4) 4 (by omega) (by omega) I4.out _ _ ?_
            generalize b.tdiv 4 % 4 = pv at *
            go_wp2
            go_meet
            rw [Hv.out]
            exact hset.out
        case rest =>
          rename World => w30
          have Hmid3 := Lib.hid hcut
          clear hcut
          go_upto_if 43 with (go_at_call 67; refine Has_any f _ (by omega) (by omega) Hsz.out _ _ ?_)
          rw [G3.out]
          go_cut [] (fun wx => MidM w w1.heap.size ⟨op, (if s.d then b % 4 else 0), (if s.a then b.tdiv 4 % 4 else 0), (if s.b then b.tdiv 16 % 4 else 0), 0⟩ wx)
          case first =>
            cases hd : s.b
            · have Hv := Lib.hid (show (if s.b then b.tdiv 16 % 4 else 0) = 0 from by rw [hd]; rfl)
              go_wp2
              go_meet
              rw [Hv.out]
              exact Hmid3.out
            · have Hv := Lib.hid (show (if s.b then b.tdiv 16 % 4 else 0) = b.tdiv 16 % 4 from by rw [hd]; rfl)
              obtain ⟨a0, a1, a2, a3, a4, az⟩ := cells_of_arr Hmid3.out.1
              have hset := Lib.hid (Hmid3.out.set 3 (b.tdiv 16 % 4) ⟨op, (if s.d then b % 4 else 0), (if s.a then b.tdiv 4 % 4 else 0), b.tdiv 16 % 4, 0⟩ rfl)
              have hlV : w1.heap.size < w30.heap.size := blk_lt Hmid3.out.1
              go_wp2_with fail
              refine Picked_calls (b.tdiv 16) 4 (by omega) (by omega) I16.out _ _ ?_
              generalize b.tdiv 16 % 4 = pv at *
              go_wp2
              go_meet
              rw [Hv.out]
              exact hset.out
          case rest =>
            rename World => w40
            have Hmid4 := Lib.hid hcut
            clear hcut
            generalize (if s.d then b % 4 else 0) = vd at *
            generalize (if s.a then b.tdiv 4 % 4 else 0) = va at *
            generalize (if s.b then b.tdiv 16 % 4 else 0) = vb at *
            obtain ⟨a0, a1, a2, a3, a4, az⟩ := cells_of_arr Hmid4.out.1
            obtain ⟨⟨z0, z1, z2, z3, z4⟩, c0, c1, c2, c3, c4⟩ := Hmid4.out.frz
            have hlV : w1.heap.size < w40.heap.size := blk_lt Hmid4.out.1
            have hlW : w.heap.size < w40.heap.size := by omega
            rcases H9.out with e | e | e | e | e
            · have k4 : hasN f 110 = false := by rw [G4.out, e]; rfl
              have k5 : hasN f 116 = false := by rw [G5.out, e]; rfl
              have k6 : hasN f 119 = false := by rw [G6.out, e]; rfl
              have k7 : hasN f 114 = false := by rw [G7.out, e]; rfl
              have Hval := Lib.hid (HNo.out 0 (by unfold numOf; rw [Hs.out, e]; rfl))
              have hfin := Lib.hid Hmid4.out.fin
              clear e
              go_wp2_with (first | (go_at_call 67; refine Has_any f _ (by omega) (by omega) Hsz.out _ _ ?_) | (go_at_call 84; first | with_reducible refine Picked_calls n 7 (by omega) (by omega) Hn.out _ _ ?_ | with_reducible refine Picked_calls n 4 (by omega) (by omega) Hn.out _ _ ?_ | with_reducible refine Picked_calls (b.tdiv 64) 4 (by omega) (by omega) I6.out _ _ ?_ | with_reducible refine Picked_calls n (many : Int) (by omega) (by omega) Hn.out _ _ ?_ | with_reducible refine Picked_calls n (r : Int) (by omega) (by omega) Hn.out _ _ ?_))
              refine bodyPost_ret (v := .agg (⟨op, vd, va, vb, 0⟩ : Mac).arr) (res_Mac (T := 54) (by rfl) (by rfl) hfin.out.1) rfl ?_
              rw [← Hval.out]
              exact HR.out _ hfin.out.2
            · have k4 : hasN f 110 = true := by rw [G4.out, e]; rfl
              have k5 : hasN f 116 = false := by rw [G5.out, e]; rfl
              have k6 : hasN f 119 = false := by rw [G6.out, e]; rfl
              have k7 : hasN f 114 = false := by rw [G7.out, e]; rfl
              by_cases hq : 33 ≤ op ∨ 0 < b.tdiv 64 % 4
              · have Hval := Lib.hid (HNo.out (n % 7 - 1) (by unfold numOf; rw [Hs.out, e, if_pos rfl, if_pos hq]))
                have hfin := Lib.hid ((Hmid4.out.set 4 n ⟨op, vd, va, vb, n⟩ rfl).set 4 (n % 7 - 1) ⟨op, vd, va, vb, n % 7 - 1⟩ rfl).fin
                have n0 := Int.emod_nonneg n (show (7 : Int) ≠ 0 by decide)
                have n1 := Int.emod_lt_of_pos n (show (0 : Int) < 7 by decide)
                have n2 : IntKind.i64.wrap (n % 7 - 1) = n % 7 - 1 := IntWalk.i64_in _ (by omega)
                by_cases hq1 : 33 ≤ op
                · clear e hq
                  go_wp2_with (first | (go_at_call 67; refine Has_any f _ (by omega) (by omega) Hsz.out _ _ ?_) | (go_at_call 84; first | with_reducible refine Picked_calls n 7 (by omega) (by omega) Hn.out _ _ ?_ | with_reducible refine Picked_calls n 4 (by omega) (by omega) Hn.out _ _ ?_ | with_reducible refine Picked_calls (b.tdiv 64) 4 (by omega) (by omega) I6.out _ _ ?_ | with_reducible refine Picked_calls n (many : Int) (by omega) (by omega) Hn.out _ _ ?_ | with_reducible refine Picked_calls n (r : Int) (by omega) (by omega) Hn.out _ _ ?_))
                  refine bodyPost_ret (v := .agg (⟨op, vd, va, vb, n % 7 - 1⟩ : Mac).arr) (res_Mac (T := 54) (by rfl) (by rfl) hfin.out.1) rfl ?_
                  rw [← Hval.out]
                  exact HR.out _ hfin.out.2
                · have hq2 : 0 < b.tdiv 64 % 4 := by omega
                  clear e hq
                  go_wp2_with (first | (go_at_call 67; refine Has_any f _ (by omega) (by omega) Hsz.out _ _ ?_) | (go_at_call 84; first | with_reducible refine Picked_calls n 7 (by omega) (by omega) Hn.out _ _ ?_ | with_reducible refine Picked_calls n 4 (by omega) (by omega) Hn.out _ _ ?_ | with_reducible refine Picked_calls (b.tdiv 64) 4 (by omega) (by omega) I6.out _ _ ?_ | with_reducible refine Picked_calls n (many : Int) (by omega) (by omega) Hn.out _ _ ?_ | with_reducible refine Picked_calls n (r : Int) (by omega) (by omega) Hn.out _ _ ?_))
                  refine bodyPost_ret (v := .agg (⟨op, vd, va, vb, n % 7 - 1⟩ : Mac).arr) (res_Mac (T := 54) (by rfl) (by rfl) hfin.out.1) rfl ?_
                  rw [← Hval.out]
                  exact HR.out _ hfin.out.2
              · have Hval := Lib.hid (HNo.out n (by unfold numOf; rw [Hs.out, e, if_pos rfl, if_neg hq]))
                have hfin := Lib.hid (Hmid4.out.set 4 n ⟨op, vd, va, vb, n⟩ rfl).fin
                have hq1 : ¬ 33 ≤ op := by omega
                have hq2 : ¬ 0 < b.tdiv 64 % 4 := by omega
                clear e hq
                go_wp2_with (first | (go_at_call 67; refine Has_any f _ (by omega) (by omega) Hsz.out _ _ ?_) | (go_at_call 84; first | with_reducible refine Picked_calls n 7 (by omega) (by omega) Hn.out _ _ ?_ | with_reducible refine Picked_calls n 4 (by omega) (by omega) Hn.out _ _ ?_ | with_reducible refine Picked_calls (b.tdiv 64) 4 (by omega) (by omega) I6.out _ _ ?_ | with_reducible refine Picked_calls n (many : Int) (by omega) (by omega) Hn.out _ _ ?_ | with_reducible refine Picked_calls n (r : Int) (by omega) (by omega) Hn.out _ _ ?_))
                refine bodyPost_ret (v := .agg (⟨op, vd, va, vb, n⟩ : Mac).arr) (res_Mac (T := 54) (by rfl) (by rfl) hfin.out.1) rfl ?_
                rw [← Hval.out]
                exact HR.out _ hfin.out.2
            · have k4 : hasN f 110 = false := by rw [G4.out, e]; rfl
              have k5 : hasN f 116 = true := by rw [G5.out, e]; rfl
              have k6 : hasN f 119 = false := by rw [G6.out, e]; rfl
              have k7 : hasN f 114 = false := by rw [G7.out, e]; rfl
              have Hval := Lib.hid (HNo.out (n % (many : Int)) (by unfold numOf; rw [Hs.out, e]; rfl))
              have hfin := Lib.hid (Hmid4.out.set 4 (n % (many : Int)) ⟨op, vd, va, vb, n % (many : Int)⟩ rfl).fin
              clear e
              go_wp2_with (first | (go_at_call 67; refine Has_any f _ (by omega) (by omega) Hsz.out _ _ ?_) | (go_at_call 84; first | with_reducible refine Picked_calls n 7 (by omega) (by omega) Hn.out _ _ ?_ | with_reducible refine Picked_calls n 4 (by omega) (by omega) Hn.out _ _ ?_ | with_reducible refine Picked_calls (b.tdiv 64) 4 (by omega) (by omega) I6.out _ _ ?_ | with_reducible refine Picked_calls n (many : Int) (by omega) (by omega) Hn.out _ _ ?_ | with_reducible refine Picked_calls n (r : Int) (by omega) (by omega) Hn.out _ _ ?_))
              refine bodyPost_ret (v := .agg (⟨op, vd, va, vb, n % (many : Int)⟩ : Mac).arr) (res_Mac (T := 54) (by rfl) (by rfl) hfin.out.1) rfl ?_
              rw [← Hval.out]
              exact HR.out _ hfin.out.2
            · have k4 : hasN f 110 = false := by rw [G4.out, e]; rfl
              have k5 : hasN f 116 = false := by rw [G5.out, e]; rfl
              have k6 : hasN f 119 = true := by rw [G6.out, e]; rfl
              have k7 : hasN f 114 = false := by rw [G7.out, e]; rfl
              have Hval := Lib.hid (HNo.out (n % 4) (by unfold numOf; rw [Hs.out, e]; rfl))
              have hfin := Lib.hid (Hmid4.out.set 4 (n % 4) ⟨op, vd, va, vb, n % 4⟩ rfl).fin
              clear e
              go_wp2_with (first | (go_at_call 67; refine Has_any f _ (by omega) (by omega) Hsz.out _ _ ?_) | (go_at_call 84; first | with_reducible refine Picked_calls n 7 (by omega) (by omega) Hn.out _ _ ?_ | with_reducible refine Picked_calls n 4 (by omega) (by omega) Hn.out _ _ ?_ | with_reducible refine Picked_calls (b.tdiv 64) 4 (by omega) (by omega) I6.out _ _ ?_ | with_reducible refine Picked_calls n (many : Int) (by omega) (by omega) Hn.out _ _ ?_ | with_reducible refine Picked_calls n (r : Int) (by omega) (by omega) Hn.out _ _ ?_))
              refine bodyPost_ret (v := .agg (⟨op, vd, va, vb, n % 4⟩ : Mac).arr) (res_Mac (T := 54) (by rfl) (by rfl) hfin.out.1) rfl ?_
              rw [← Hval.out]
              exact HR.out _ hfin.out.2
            · have k4 : hasN f 110 = false := by rw [G4.out, e]; rfl
              have k5 : hasN f 116 = false := by rw [G5.out, e]; rfl
              have k6 : hasN f 119 = false := by rw [G6.out, e]; rfl
              have k7 : hasN f 114 = true := by rw [G7.out, e]; rfl
              have hr0 : 0 < r := Hrt.out e
              have Hval := Lib.hid (HNo.out (n % (r : Int)) (by unfold numOf; rw [Hs.out, e]; rfl))
              have hfin := Lib.hid (Hmid4.out.set 4 (n % (r : Int)) ⟨op, vd, va, vb, n % (r : Int)⟩ rfl).fin
              clear e
              go_wp2_with (first | (go_at_call 67; refine Has_any f _ (by omega) (by omega) Hsz.out _ _ ?_) | (go_at_call 84; first | with_reducible refine Picked_calls n 7 (by omega) (by omega) Hn.out _ _ ?_ | with_reducible refine Picked_calls n 4 (by omega) (by omega) Hn.out _ _ ?_ | with_reducible refine Picked_calls (b.tdiv 64) 4 (by omega) (by omega) I6.out _ _ ?_ | with_reducible refine Picked_calls n (many : Int) (by omega) (by omega) Hn.out _ _ ?_ | with_reducible refine Picked_calls n (r : Int) (by omega) (by omega) Hn.out _ _ ?_))
              refine bodyPost_ret (v := .agg (⟨op, vd, va, vb, n % (r : Int)⟩ : Mac).arr) (res_Mac (T := 54) (by rfl) (by rfl) hfin.out.1) rfl ?_
              rw [← Hval.out]
              exact HR.out _ hfin.out.2
end Go.Proofs.YtcakodemngchpaaGreatDoor

/- R.MacBytes: the bytes of an instruction. -/
namespace Go.Proofs.YtcakodemngchpaaGreatDoor
open Go.RowKit
set_option linter.unusedSimpArgs false
set_option linter.unusedVariables false

theorem getD_mem_ {α : Type} {l : List α} {k : Nat} {d : α} (h : k < l.length) : l.getD k d ∈ l := by
  rw [List.getD_eq_getElem?_getD, List.getElem?_eq_getElem h]
  exact List.getElem_mem h
theorem byte_of {x : Int} (h0 : 0 ≤ x) (h1 : x < 256) : byteCells (UInt8.ofNat x.toNat) = [.int .u8 x] := by
  have e : ((UInt8.ofNat x.toNat).toNat : Int) = x := by
    rw [UInt8.toNat_ofNat']
    omega
  unfold byteCells
  rw [e]

set_option maxRecDepth 100000 in
set_option maxHeartbeats 4000000 in
theorem MacBytes_calls (m : Mac) (hm : GoodMac m) (w : World) (R : Ending → World → Prop)
    (hR : ∀ w' v', Below w.heap.size w w' → Buf w' w.heap.size v' (macB m) → R (.returned v') w') :
    Calls Tryz.prog 34 #[.agg m.arr] w R := by
  have HR := Lib.hid hR
  have Hg := Lib.hid hm
  obtain ⟨iI, hiI, zI0, zI1, zI2⟩ := info_parts info_int3
  have hkn := hm.known
  have hop : 1 ≤ m.op ∧ m.op ≤ 47 := by simpa [known] using hkn
  obtain ⟨f0, f1, f2, f3, f4, f5, f6, f7, f8, f9⟩ := fields_has _ hkn
  obtain ⟨W0, hW0⟩ : ∃ W0, W0 = w.alloc (Obj.cells m.arr 54) := ⟨_, rfl⟩
  have hz0 : W0.heap.size = w.heap.size + 1 := by subst hW0; simp
  have hP0 : W0.heap[w.heap.size]? = some (.cells m.arr 54 (0, 0)) := by subst hW0; exact heap_alloc_new _ _
  have hb0 : Below w.heap.size w W0 := by subst hW0; exact bl0
  obtain ⟨a0, a1, a2, a3, a4, az⟩ := cells_of_arr hP0
  have hl0 : w.heap.size < W0.heap.size := by omega
  have HW := Lib.hid hW0.symm
  have HP0 := Lib.hid hP0
  have Hb0 := Lib.hid hb0
  have G1 : Hid (hasN (fieldsOf m.op) 100 = (shapeOf m.op).d) := Lib.hid f2
  have G2 : Hid (hasN (fieldsOf m.op) 97 = (shapeOf m.op).a) := Lib.hid f3
  have G3 : Hid (hasN (fieldsOf m.op) 98 = (shapeOf m.op).b) := Lib.hid f4
  have G4 : Hid (hasN (fieldsOf m.op) 110 = ((shapeOf m.op).n == 1)) := Lib.hid f5
  have G5 : Hid (hasN (fieldsOf m.op) 116 = ((shapeOf m.op).n == 2)) := Lib.hid f6
  have G6 : Hid (hasN (fieldsOf m.op) 119 = ((shapeOf m.op).n == 3)) := Lib.hid f7
  have G7 : Hid (hasN (fieldsOf m.op) 114 = ((shapeOf m.op).n == 4)) := Lib.hid f8
  have Hsz : Hid ((fieldsOf m.op).size ≤ 100) := Lib.hid (by omega)
  have H9 := Lib.hid f9
  clear hR hm hkn f0 f1 f2 f3 f4 f5 f6 f7 f8 f9 hW0 hP0 hb0
  have Harr := Lib.hid (show m.arr = #[.int .i64 m.op, .int .i64 m.dst, .int .i64 m.a, .int .i64 m.b, .int .i64 m.n] from rfl)
  go_enter Tryz.func34, Tryz.ntmps34
  go_upto_region 1 with fail
  rw [HW.out]
  go_wp2_with fail
  refine Fields_calls m.op _ _ (fun w1 hb1 => ?_)
  have hz1 := hb1.size
  have hP1 := (hb1.block _ hl0).trans HP0.out
  obtain ⟨a0, a1, a2, a3, a4, az⟩ := cells_of_arr hP1
  have hl1 : w.heap.size < w1.heap.size := by omega
  have Hb1 := Lib.hid hb1
  have HP1 := Lib.hid hP1
  generalize fieldsOf m.op = f at *
  clear hb1 hP1
  obtain ⟨W1, hW1⟩ : ∃ W1, W1 = w1.alloc (Obj.cells #[.int .u8 m.op] 5) := ⟨_, rfl⟩
  have hzW1 : W1.heap.size = w1.heap.size + 1 := by subst hW1; simp
  have hout1 : Buf W1 (w.heap.size + 1) (.slice (some ⟨w1.heap.size, 0, none⟩) 1 1) [UInt8.ofNat m.op.toNat] := by
    subst hW1
    refine .inl ⟨rfl, .inr ⟨w1.heap.size, 1, #[.int .u8 m.op], rfl, by omega, heap_alloc_new _ _, Nat.le_refl _, by unfold maxLen; omega, rfl, ?_⟩⟩
    rw [List.flatMap_cons, byte_of (by omega) (by omega)]
    rfl
  have hPW1 : W1.heap[w.heap.size]? = some (.cells m.arr 54 (0, 0)) := by subst hW1; exact blk_alloc HP1.out _
  have hbW1 : Below w.heap.size w W1 := by subst hW1; exact (Hb0.out.trans (Hb1.out.mono (by omega))).alloc (by omega) _
  have HW1 := Lib.hid hW1.symm
  have Hout1 := Lib.hid hout1
  have HPW1 := Lib.hid hPW1
  have HbW1 := Lib.hid hbW1
  clear hW1 hout1 hPW1 hbW1
  generalize hs : shapeOf m.op = s at *
  have Hs := Lib.hid hs
  clear hs
  go_upto_region 4 with fail
  rw [HW1.out]
  have hlW1 : w.heap.size < W1.heap.size := by omega
  have HzW1 := Lib.hid hzW1
  clear hzW1
  clear a0 a1 a2 a3 a4 az
  have hst0 : Hid (W1.ownsRow W1.heap.size 3 1 (.slice none 0 0) ([] : List Int).length (([] : List Int).map (Value.int .i64)) ∧ Below W1.heap.size W1 W1) := Lib.hid ⟨World.ownsRow_nil _ _ _ _, Below.refl _ _⟩
  obtain ⟨rs1, hrs1⟩ : ∃ rs, rs = (if s.d then [m.dst] else [] : List Int) := ⟨_, rfl⟩
  have hlr1 : rs1.length ≤ 1 := by rw [hrs1]; cases s.d <;> simp <;> omega
  have HRs1 := Lib.hid hrs1
  clear hrs1
  go_upto_if 15 with (go_at_call 67; refine Has_any f _ (by omega) (by omega) Hsz.out _ _ ?_)
  rw [G1.out]
  go_cut [5] (fun s5 wx => wx.ownsRow W1.heap.size 3 1 s5 rs1.length (rs1.map (Value.int .i64)) ∧ Below W1.heap.size W1 wx)
  case first =>
    cases hd : s.d
    · have Hv := Lib.hid (show rs1 = ([] : List Int) from by rw [HRs1.out, hd]; simp)
      go_wp2
      go_meet
      rw [Hv.out]
      exact hst0.out
    · have Hv := Lib.hid (show rs1 = ([] : List Int) ++ [m.dst] from by rw [HRs1.out, hd]; simp)
      have hPx : W1.heap[w.heap.size]? = some (.cells m.arr 54 (0, 0)) := (hst0.out.2.block _ (by omega)).trans HPW1.out
      obtain ⟨a0, a1, a2, a3, a4, az⟩ := cells_of_arr hPx
      have hlx : w.heap.size < W1.heap.size := blk_lt hPx
      obtain ⟨Ax, cx, hvx⟩ : ∃ A c, (.slice none 0 0) = Value.slice A (([] : List Int)).length c := own_slice hst0.out.1
      have hzx := hst0.out.2.size
      have hW : Hid ((W1.alloc (Obj.cells #[.int .i64 m.dst] 3)).ownsRow W1.heap.size 3 1 (.slice none 0 0) (([] : List Int)).length ((([] : List Int)).map (Value.int .i64))) := Lib.hid (hst0.out.1.alloc _)
      clear hPx
      skip
      go_wp2_with (at_builtin; refine wpList_append_own _ rfl _ _ 31 rfl W1.heap.size 3 iI _ 1 8 Tryz.underlying31 hiI zI0 zI1 zI2 rfl (by decide) (.slice none 0 0) (([] : List Int)).length ((([] : List Int)).map (Value.int .i64)) rfl hW.out ⟨W1.heap.size, 0, none⟩ 1 1 [.int .i64 m.dst] rfl rfl ?_ ?_ ?_ ?_ ?_ ?_)
      any_goals (first | exact World.news_of_block (cs := #[.int .i64 m.dst]) (t := 3) (fr := (0, 0)) (heap_alloc_new _ _) | (simp [Value.oneCell']; done) | (unfold maxLen; omega) | (unfold maxLen; simp; done) | (unfold maxLen; simp; omega) | omega | (simp; done) | (simp; omega))
      intro v' w2 hown2 hgrow2 _
      have hb2 := (hst0.out.2.alloc (by omega) (Obj.cells #[.int .i64 m.dst] 3)).grown hgrow2 (by first | (simp; done) | (simp; omega)) (fun j hj => (hst0.out.1.lt j hj).1)
      have hfin := Lib.hid (And.intro hown2 hb2)
      clear hown2 hb2 hgrow2
      go_wp2
      go_meet
      rw [Hv.out]
      exact ⟨by simpa using hfin.out.1, hfin.out.2⟩
  case rest =>
    rename World => x1
    have hst1 := Lib.hid hcut
    clear hcut
    obtain ⟨rs2, hrs2⟩ : ∃ rs, rs = (rs1 ++ (if s.a then [m.a] else [])) := ⟨_, rfl⟩
    have hlr2 : rs2.length ≤ 2 := by rw [hrs2]; cases s.a <;> simp <;> omega
    have HRs2 := Lib.hid hrs2
    clear hrs2
    go_upto_if 22 with (go_at_call 67; refine Has_any f _ (by omega) (by omega) Hsz.out _ _ ?_)
    rw [G2.out]
    go_cut [5] (fun s5 wx => wx.ownsRow W1.heap.size 3 1 s5 rs2.length (rs2.map (Value.int .i64)) ∧ Below W1.heap.size W1 wx)
    case first =>
      cases hd : s.a
      · have Hv := Lib.hid (show rs2 = rs1 from by rw [HRs2.out, hd]; simp)
        go_wp2
        go_meet
        rw [Hv.out]
        exact hst1.out
      · have Hv := Lib.hid (show rs2 = rs1 ++ [m.a] from by rw [HRs2.out, hd]; simp)
        have hPx : x1.heap[w.heap.size]? = some (.cells m.arr 54 (0, 0)) := (hst1.out.2.block _ (by omega)).trans HPW1.out
        obtain ⟨a0, a1, a2, a3, a4, az⟩ := cells_of_arr hPx
        have hlx : w.heap.size < x1.heap.size := blk_lt hPx
        obtain ⟨Ax, cx, hvx⟩ : ∃ A c, u5 = Value.slice A (rs1).length c := own_slice hst1.out.1
        have hzx := hst1.out.2.size
        have hW : Hid ((x1.alloc (Obj.cells #[.int .i64 m.a] 3)).ownsRow W1.heap.size 3 1 u5 (rs1).length ((rs1).map (Value.int .i64))) := Lib.hid (hst1.out.1.alloc _)
        clear hPx
        subst hvx
        go_wp2_with (at_builtin; refine wpList_append_own _ rfl _ _ 31 rfl W1.heap.size 3 iI _ 1 8 Tryz.underlying31 hiI zI0 zI1 zI2 rfl (by decide) (.slice Ax (rs1).length cx) (rs1).length ((rs1).map (Value.int .i64)) rfl hW.out ⟨x1.heap.size, 0, none⟩ 1 1 [.int .i64 m.a] rfl rfl ?_ ?_ ?_ ?_ ?_ ?_)
        any_goals (first | exact World.news_of_block (cs := #[.int .i64 m.a]) (t := 3) (fr := (0, 0)) (heap_alloc_new _ _) | (simp [Value.oneCell']; done) | (unfold maxLen; omega) | (unfold maxLen; simp; done) | (unfold maxLen; simp; omega) | omega | (simp; done) | (simp; omega))
        intro v' w2 hown2 hgrow2 _
        have hb2 := (hst1.out.2.alloc (by omega) (Obj.cells #[.int .i64 m.a] 3)).grown hgrow2 (by first | (simp; done) | (simp; omega)) (fun j hj => (hst1.out.1.lt j hj).1)
        have hfin := Lib.hid (And.intro hown2 hb2)
        clear hown2 hb2 hgrow2
        go_wp2
        go_meet
        rw [Hv.out]
        exact ⟨by simpa using hfin.out.1, hfin.out.2⟩
    case rest =>
      rename World => x2
      have hst2 := Lib.hid hcut
      clear hcut
      obtain ⟨rs3, hrs3⟩ : ∃ rs, rs = (rs2 ++ (if s.b then [m.b] else [])) := ⟨_, rfl⟩
      have hlr3 : rs3.length ≤ 3 := by rw [hrs3]; cases s.b <;> simp <;> omega
      have HRs3 := Lib.hid hrs3
      clear hrs3
      go_upto_if 29 with (go_at_call 67; refine Has_any f _ (by omega) (by omega) Hsz.out _ _ ?_)
      rw [G3.out]
      go_cut [5] (fun s5 wx => wx.ownsRow W1.heap.size 3 1 s5 rs3.length (rs3.map (Value.int .i64)) ∧ Below W1.heap.size W1 wx)
      case first =>
        cases hd : s.b
        · have Hv := Lib.hid (show rs3 = rs2 from by rw [HRs3.out, hd]; simp)
          go_wp2
          go_meet
          rw [Hv.out]
          exact hst2.out
        · have Hv := Lib.hid (show rs3 = rs2 ++ [m.b] from by rw [HRs3.out, hd]; simp)
          have hPx : x2.heap[w.heap.size]? = some (.cells m.arr 54 (0, 0)) := (hst2.out.2.block _ (by omega)).trans HPW1.out
          obtain ⟨a0, a1, a2, a3, a4, az⟩ := cells_of_arr hPx
          have hlx : w.heap.size < x2.heap.size := blk_lt hPx
          obtain ⟨Ax, cx, hvx⟩ : ∃ A c, u5 = Value.slice A (rs2).length c := own_slice hst2.out.1
          have hzx := hst2.out.2.size
          have hW : Hid ((x2.alloc (Obj.cells #[.int .i64 m.b] 3)).ownsRow W1.heap.size 3 1 u5 (rs2).length ((rs2).map (Value.int .i64))) := Lib.hid (hst2.out.1.alloc _)
          clear hPx
          subst hvx
          go_wp2_with (at_builtin; refine wpList_append_own _ rfl _ _ 31 rfl W1.heap.size 3 iI _ 1 8 Tryz.underlying31 hiI zI0 zI1 zI2 rfl (by decide) (.slice Ax (rs2).length cx) (rs2).length ((rs2).map (Value.int .i64)) rfl hW.out ⟨x2.heap.size, 0, none⟩ 1 1 [.int .i64 m.b] rfl rfl ?_ ?_ ?_ ?_ ?_ ?_)
          any_goals (first | exact World.news_of_block (cs := #[.int .i64 m.b]) (t := 3) (fr := (0, 0)) (heap_alloc_new _ _) | (simp [Value.oneCell']; done) | (unfold maxLen; omega) | (unfold maxLen; simp; done) | (unfold maxLen; simp; omega) | omega | (simp; done) | (simp; omega))
          intro v' w2 hown2 hgrow2 _
          have hb2 := (hst2.out.2.alloc (by omega) (Obj.cells #[.int .i64 m.b] 3)).grown hgrow2 (by first | (simp; done) | (simp; omega)) (fun j hj => (hst2.out.1.lt j hj).1)
          have hfin := Lib.hid (And.intro hown2 hb2)
          clear hown2 hb2 hgrow2
          go_wp2
          go_meet
          rw [Hv.out]
          exact ⟨by simpa using hfin.out.1, hfin.out.2⟩
      case rest =>
        rename World => x3
        have hst3 := Lib.hid hcut
        clear hcut
        have hrg : rs3 = regsOf m := by unfold regsOf; rw [Hs.out, HRs3.out, HRs2.out, HRs1.out]
        have hreg : ∀ x ∈ rs3, 0 ≤ x ∧ x ≤ 15 := fun x hx => Hg.out.regs x (by rw [← hrg]; exact hx)
        have HRg := Lib.hid hrg
        have Hreg := Lib.hid hreg
        have hz3 := hst3.out.2.size
        obtain ⟨A5, c5, hu5⟩ : ∃ A c, u5 = Value.slice A rs3.length c := own_slice hst3.out.1
        subst hu5
        have hslf : rpInt.SLF x3 W1.heap.size x3.heap.size rs3 (.slice A5 rs3.length c5) := by
          refine Rp.SL.of_own (r := rpInt) (f := fun n => [.int .i64 n]) (fun _ _ _ => rfl) (fun _ => rfl) (base := W1.heap.size) (e := 3) ?_ (by rw [only_size]; exact Nat.le_refl _)
          have := ownsRow_only hst3.out.1
          rw [List.map_eq_flatMap] at this
          exact this
        have hob0 : OB (w.heap.size + 1) (.slice (some ⟨w1.heap.size, 0, none⟩) 1 1) [UInt8.ofNat m.op.toNat] x3 x3 := ⟨Hout1.out.below hst3.out.2 (Nat.le_refl _), Below.refl _ _, by omega⟩
        have Hslf := Lib.hid hslf
        have Hob0 := Lib.hid hob0
        clear hrg hreg hslf hob0 HRs1 HRs2 HRs3
        go_wp2_with fail
        go_loopg [4, 6] 4 (fun gh s4 i wr => ∃ (j : Nat) (cur : List UInt8), gh = 4 - j ∧ j ≤ 4 ∧ i = .int .i64 (j : Int) ∧ cur.length ≤ 4 ∧ cur ++ regsB (rs3.drop j) = UInt8.ofNat m.op.toNat :: regsB rs3 ∧ OB (w.heap.size + 1) s4 cur x3 wr ∧ rpInt.SLF wr W1.heap.size x3.heap.size rs3 (.slice A5 rs3.length c5) ∧ ∀ g, s4.ownBlock = some g → g = w1.heap.size ∨ x3.heap.size ≤ g)
        case atStart =>
          refine ⟨0, _, rfl, by omega, rfl, by simp, rfl, Hob0.out, Hslf.out, fun g hg => .inl ?_⟩
          simp [Value.ownBlock] at hg
          exact hg.symm
        case round =>
          rename World => wr
          obtain ⟨j, cur, rfl, hj4, rfl, hcl, hcur, hob, hsl, hown⟩ := hrel
          have Hob := Lib.hid hob
          have Hsl := Lib.hid hsl
          have Hcur := Lib.hid hcur
          have Hown := Lib.hid hown
          have i1 : (0 : Int) ≤ (j : Int) := Int.natCast_nonneg _
          have hzr := hob.bel.size
          obtain ⟨A4, c4, rfl⟩ := hob.buf.slice
          clear hob hsl hcur hown
          by_cases hlt : j < rs3.length
          · have i2 : (j : Int) < (rs3.length : Int) := by omega
            obtain ⟨b, off, hA, hb, q0'⟩ := Rp.SL.int_at Hsl.out hlt
            subst hA
            obtain ⟨q0, hbW⟩ := only_cell q0'
            simp only [decide_eq_true_eq] at hbW
            clear q0'
            have hx := Hreg.out _ (getD_mem_ (d := (0 : Int)) hlt)
            have hne : Value.ownBlock (.slice A4 cur.length c4) = none ∨ ∃ g, Value.ownBlock (.slice A4 cur.length c4) = some g ∧ (g = w1.heap.size ∨ x3.heap.size ≤ g) := by
              cases hv : Value.ownBlock (.slice A4 cur.length c4) with
              | none => exact .inl rfl
              | some g => exact .inr ⟨g, rfl, Hown.out g hv⟩
            have Hne := Lib.hid hne
            clear hne
            have hw1W := HzW1.out
            by_cases hs1 : j + 1 = rs3.length
            · have hval := regsB_one hs1
              have Hval := Lib.hid hval
              have i3 : (((j : Int) + 1) == (rs3.length : Int)) = true := by simp; omega
              have Hend := Lib.hid (regsB_end (l := rs3) (j := j + 2) (by omega))
              clear hval
              generalize rs3.getD j 0 = x at *
              have hb1' : IntKind.u8.wrap x = x := by rw [IntKind.wrap_u8]; omega
              have Hby := Lib.hid (byte_of hx.1 (show x < 256 by omega))
              have Hbuf := Lib.hid ((Hob.out.buf.below ((Below.refl _ _).alloc (Nat.le_refl _) (Obj.cells #[.int .u8 x] 5)) (Nat.le_refl _)))
              have hbase := Hob.out.base
              clear hs1 hw1W
              go_wp2_with (at_builtin; refine wpList_app_buf _ rfl _ _ _ rfl Tryz.underlying25 rfl Hbuf.out rfl (one_src Hby.out) (by simp; omega) (by simp; omega) ?_)
              intro v' w5 hb5 hg5 hc5
              have hsl5 : rpInt.SLF w5 W1.heap.size x3.heap.size rs3 (.slice (some ⟨b, off, none⟩) rs3.length c5) := (Hsl.out.keepB (w' := wr.alloc (Obj.cells #[.int .u8 x] 5)) fun k h1 h2 => Below.heap_alloc _ _ _ (by omega)).keepB fun k h1 h2 => hg5.block k (by first | (simp; omega) | (show k < (wr.alloc _).heap.size; simp; omega)) (fun e => by
                have h := Hown.out k e
                have := HzW1.out
                omega)
              have hown5 : ∀ g, v'.ownBlock = some g → g = w1.heap.size ∨ x3.heap.size ≤ g := fun g hg => by
                rcases hc5 g hg with h | h
                · exact Hown.out g h
                · right
                  have h' : wr.heap.size + 1 ≤ g := by simpa using h
                  omega
              have hob5 := (Hob.out.below ((Below.refl _ _).alloc (Nat.le_refl _) (Obj.cells #[.int .u8 x] 5))).app hb5 hg5
              have hcur5 : (cur ++ [UInt8.ofNat x.toNat]) ++ regsB (rs3.drop (j + 2)) = UInt8.ofNat m.op.toNat :: regsB rs3 := by
                rw [← Hcur.out, Hval.out, Hend.out]
                simp
              have hcl5 : (cur ++ [UInt8.ofNat x.toNat]).length ≤ 4 := by
                have h1 := congrArg List.length hcur5
                have h2 := regsB_len rs3
                rw [List.length_append, List.length_cons] at h1
                omega
              have HA := Lib.hid hsl5
              have HB := Lib.hid hown5
              have HC := Lib.hid hob5
              have HD := Lib.hid hcur5
              have HE := Lib.hid hcl5
              clear hsl5 hown5 hob5 hcur5 hcl5 hb5 hg5 hc5
              go_wp2
              go_roundg (4 - (j + 2))
              case measure => omega
              case rel => exact ⟨j + 2, _, rfl, by omega, by go_num, HE.out, HD.out, HC.out, HA.out, HB.out⟩
            · have hs2 : j + 1 < rs3.length := by omega
              obtain ⟨b', off', hA', hb', q1⟩ := Hsl.out.SL.int_at hs2
              cases hA'
              have hy := Hreg.out _ (getD_mem_ (d := (0 : Int)) hs2)
              have hval := regsB_two hs2
              have Hval := Lib.hid hval
              have i3 : (((j : Int) + 1) == (rs3.length : Int)) = false := by simp; omega
              have i4 : (j : Int) + 1 < (rs3.length : Int) := by omega
              have i5 : IntKind.i64.wrap ((j : Int) + 1) = (j : Int) + 1 := IntWalk.i64_in _ (by omega)
              have i6 : ((j : Int) + 1).toNat = j + 1 := by omega
              have i7 : (0 : Int) ≤ (j : Int) + 1 := by omega
              clear hval
              generalize rs3.getD j 0 = x at *
              generalize rs3.getD (j + 1) 0 = y at *
              have hz16 : IntKind.i64.wrap (16 * x) = 16 * x := IntWalk.i64_in _ (by omega)
              have hz17 : IntKind.i64.wrap (16 * x + y) = 16 * x + y := IntWalk.i64_in _ (by omega)
              have hb1' : IntKind.u8.wrap (16 * x + y) = 16 * x + y := by rw [IntKind.wrap_u8]; omega
              have Hby := Lib.hid (byte_of (show 0 ≤ 16 * x + y by omega) (show 16 * x + y < 256 by omega))
              have hbase := Hob.out.base
              have HSS : Hid (∀ W : World, W.heap[b]? = wr.heap[b]? → (fun W : World => W.cell? ⟨b, off + j, none⟩ = some (.int .i64 x) ∧ W.cell? ⟨b, off + (j + 1), none⟩ = some (.int .i64 y)) W) := Lib.hid fun W h => ⟨(World.cell?_of_block h).trans q0, (World.cell?_of_block h).trans q1⟩
              have hS0 := HSS.out wr rfl
              have hS1 := HSS.out wr.drew rfl
              have hbz : b < wr.heap.size := by omega
              have hS2 := HSS.out (wr.alloc (Obj.cells #[.int .u8 (16 * x + y)] 5)) (Below.heap_alloc _ _ _ hbz)
              have hS3 := HSS.out (wr.alloc (Obj.cells #[.int .u8 (16 * x + y)] 5)).drew (Below.heap_alloc _ _ _ hbz)
              have Hbuf := Lib.hid ((Hob.out.buf.below ((Below.refl _ _).alloc (Nat.le_refl _) (Obj.cells #[.int .u8 (16 * x + y)] 5)) (Nat.le_refl _)))
              have Hbuf2 := Lib.hid ((Hob.out.buf.below (((Below.refl _ _).alloc (Nat.le_refl _) (Obj.cells #[.int .u8 (16 * x + y)] 5)).drew) (Nat.le_refl _)))
              have hnb : Hid (Value.ownBlock (.slice A4 cur.length c4) ≠ some b) := Lib.hid fun e => by
                have := Hown.out b e
                omega
              clear hs1 hs2 hw1W
              go_upto_region 15 with fail
              go_region_held3 (fun W : World => W.cell? ⟨b, off + j, none⟩ = some (.int .i64 x) ∧ W.cell? ⟨b, off + (j + 1), none⟩ = some (.int .i64 y)) (first | with_reducible exact hS0 | with_reducible exact hS1 | with_reducible exact hS2 | with_reducible exact hS3 | with_reducible exact hS5) (first
                | (refine step_app_buf _ rfl (.tmp 54) (.tmp 67) _ rfl Tryz.underlying25 (v := .slice A4 cur.length c4) (u := .slice (some ⟨wr.heap.size, 0, none⟩) 1 1) (bs := cur) (cs := [UInt8.ofNat (16 * x + y).toNat]) (by simp [Act.eval, Act.put]) (by first | exact Hbuf.out | exact Hbuf2.out) (by simp [Act.eval, Act.put]) (by first | exact one_src Hby.out | exact (one_src Hby.out).below (Below.refl _ _).drew) (by simp; omega) (by first | (simp; omega) | (show w.heap.size + 1 ≤ (wr.alloc _).heap.size; simp; omega)) ?_; intro v' w5 hb5 hg5' hc5'; have hg5 : Grew (fun k => Value.ownBlock (.slice A4 cur.length c4) = some k) (wr.alloc (Obj.cells #[.int .u8 (16 * x + y)] 5)) w5 := (by first | exact hg5' | exact Grew.of_drew hg5'); have hc5 : Came (wr.alloc (Obj.cells #[.int .u8 (16 * x + y)] 5)) (.slice A4 cur.length c4) v' := (hc5'); have hS5 := HSS.out w5 ((hg5.block b (by first | (simp; omega) | (show b < (wr.alloc _).heap.size; simp; omega)) hnb.out).trans (Below.heap_alloc _ _ _ hbz)); have Hb5 := Lib.hid hb5; have Hg5 := Lib.hid hg5; have Hc5 := Lib.hid hc5; clear hb5 hg5 hc5 hg5' hc5'))
              all_goals
                have hsl5 : rpInt.SLF w5 W1.heap.size x3.heap.size rs3 (.slice (some ⟨b, off, none⟩) rs3.length c5) := (Hsl.out.keepB (w' := wr.alloc (Obj.cells #[.int .u8 (16 * x + y)] 5)) fun k h1 h2 => Below.heap_alloc _ _ _ (by omega)).keepB fun k h1 h2 => Hg5.out.block k (by first | (simp; omega) | (show k < (wr.alloc _).heap.size; simp; omega)) (fun e => by
                  have h := Hown.out k e
                  have := HzW1.out
                  omega)
                have hown5 : ∀ g, v'.ownBlock = some g → g = w1.heap.size ∨ x3.heap.size ≤ g := fun g hg => by
                  rcases Hc5.out g hg with h | h
                  · exact Hown.out g h
                  · right
                    have h' : wr.heap.size + 1 ≤ g := by simpa using h
                    omega
                have hob5 := (Hob.out.below ((Below.refl _ _).alloc (Nat.le_refl _) (Obj.cells #[.int .u8 (16 * x + y)] 5))).app Hb5.out Hg5.out
                have hcur5 : (cur ++ [UInt8.ofNat (16 * x + y).toNat]) ++ regsB (rs3.drop (j + 2)) = UInt8.ofNat m.op.toNat :: regsB rs3 := by
                  rw [← Hcur.out, Hval.out]
                  simp
                have hcl5 : (cur ++ [UInt8.ofNat (16 * x + y).toNat]).length ≤ 4 := by
                  have h1 := congrArg List.length hcur5
                  have h2 := regsB_len rs3
                  rw [List.length_append, List.length_cons] at h1
                  omega
                have HA := Lib.hid hsl5
                have HB := Lib.hid hown5
                have HC := Lib.hid hob5
                have HD := Lib.hid hcur5
                have HE := Lib.hid hcl5
                clear hsl5 hown5 hob5 hcur5 hcl5 Hb5 Hg5 Hc5
                go_wp2
                go_roundg (4 - (j + 2))
                case measure => omega
                case rel => exact ⟨j + 2, _, rfl, by omega, by go_num, HE.out, HD.out, HC.out, HA.out, HB.out⟩
          · have i2 : ¬ (j : Int) < (rs3.length : Int) := by omega
            have hcur0 : cur = UInt8.ofNat m.op.toNat :: regsB (regsOf m) := by
              have h := Hcur.out
              rw [regsB_end (by omega), List.append_nil, HRg.out] at h
              exact h
            have HC0 := Lib.hid hcur0
            have hPx : wr.heap[w.heap.size]? = some (.cells m.arr 54 (0, 0)) := (Hob.out.bel.block _ (by omega)).trans ((hst3.out.2.block _ (by omega)).trans HPW1.out)
            obtain ⟨a0, a1, a2, a3, a4, az⟩ := cells_of_arr hPx
            have hlx : w.heap.size < wr.heap.size := blk_lt hPx
            have hbf : Below w.heap.size w wr := HbW1.out.trans ((hst3.out.2.mono (by omega)).trans (Hob.out.bel.mono (by omega)))
            have Hbf := Lib.hid hbf
            have hfl := foldN_lt Hg.out.num.1 Hg.out.num.2
            have hbase := Hob.out.base
            clear hcur0 hPx hbf
            rcases H9.out with e | e | e | e | e
            · have k4 : hasN f 110 = false := by rw [G4.out, e]; rfl
              have k5 : hasN f 116 = false := by rw [G5.out, e]; rfl
              have k6 : hasN f 119 = false := by rw [G6.out, e]; rfl
              have k7 : hasN f 114 = false := by rw [G7.out, e]; rfl
              have hfin := Lib.hid (HR.out wr (.slice A4 cur.length c4) Hbf.out (by
                have h := Hob.out.buf.base (Nat.le_succ w.heap.size)
                rw [HC0.out] at h ⊢
                unfold macB
                rw [Hs.out, if_pos e, List.append_nil]
                exact h))
              clear e
              go_wp2_with (first | (go_at_call 67; refine Has_any f _ (by omega) (by omega) Hsz.out _ _ ?_))
              exact hfin.out
            · have k4 : hasN f 110 = true := by rw [G4.out, e]; rfl
              have k5 : hasN f 116 = false := by rw [G5.out, e]; rfl
              have k6 : hasN f 119 = false := by rw [G6.out, e]; rfl
              have k7 : hasN f 114 = false := by rw [G7.out, e]; rfl
              have hne0 : ¬ s.n = 0 := by rw [e]; decide
              have Hne0 := Lib.hid hne0
              clear e hne0
              go_wp2_with (first | (go_at_call 67; refine Has_any f _ (by omega) (by omega) Hsz.out _ _ ?_))
              refine Folded_calls m.n _ Hg.out.num _ ?_
              go_wp2_with fail
              refine rNumber_calls (foldN m.n + 1) (foldN m.n) _ _ hfl (Nat.lt_succ_self _) (fun w7 v7 hb7 hbuf7 => ?_)
              have hz7 := hb7.size
              have hob7 := Lib.hid (Hob.out.below hb7)
              have Hs7 := Lib.hid (hbuf7.SL (Nat.le_refl _))
              have hl7 := numB_len (foldN m.n)
              obtain ⟨A7, c7, rfl⟩ := hbuf7.slice
              have hbase7 := hob7.out.base
              have Hb7 := Lib.hid hb7
              clear hb7 hbuf7 a0 a1 a2 a3 a4 az
              go_wp2_with (at_builtin; refine wpList_app_buf _ rfl _ _ _ rfl Tryz.underlying25 rfl hob7.out.buf rfl Hs7.out (by omega) hbase7 ?_)
              intro v8 w8 hb8 hg8 hc8
              have hb9 := hg8.below (B := w.heap.size) (fun k hk e => by have := (hob7.out.buf.lt k e).1; omega) (by omega)
              have hfin := Lib.hid (HR.out w8 v8 (Hbf.out.trans ((Hb7.out.mono (by omega)).trans hb9)) (by
                have h := hb8.base (Nat.le_succ w.heap.size)
                rw [HC0.out] at h
                unfold macB
                rw [Hs.out, if_neg Hne0.out]
                exact h))
              clear hb8 hg8 hc8 hb9
              go_wp2
              exact hfin.out
            · have k4 : hasN f 110 = false := by rw [G4.out, e]; rfl
              have k5 : hasN f 116 = true := by rw [G5.out, e]; rfl
              have k6 : hasN f 119 = false := by rw [G6.out, e]; rfl
              have k7 : hasN f 114 = false := by rw [G7.out, e]; rfl
              have hne0 : ¬ s.n = 0 := by rw [e]; decide
              have Hne0 := Lib.hid hne0
              clear e hne0
              go_wp2_with (first | (go_at_call 67; refine Has_any f _ (by omega) (by omega) Hsz.out _ _ ?_))
              refine Folded_calls m.n _ Hg.out.num _ ?_
              go_wp2_with fail
              refine rNumber_calls (foldN m.n + 1) (foldN m.n) _ _ hfl (Nat.lt_succ_self _) (fun w7 v7 hb7 hbuf7 => ?_)
              have hz7 := hb7.size
              have hob7 := Lib.hid (Hob.out.below hb7)
              have Hs7 := Lib.hid (hbuf7.SL (Nat.le_refl _))
              have hl7 := numB_len (foldN m.n)
              obtain ⟨A7, c7, rfl⟩ := hbuf7.slice
              have hbase7 := hob7.out.base
              have Hb7 := Lib.hid hb7
              clear hb7 hbuf7 a0 a1 a2 a3 a4 az
              go_wp2_with (at_builtin; refine wpList_app_buf _ rfl _ _ _ rfl Tryz.underlying25 rfl hob7.out.buf rfl Hs7.out (by omega) hbase7 ?_)
              intro v8 w8 hb8 hg8 hc8
              have hb9 := hg8.below (B := w.heap.size) (fun k hk e => by have := (hob7.out.buf.lt k e).1; omega) (by omega)
              have hfin := Lib.hid (HR.out w8 v8 (Hbf.out.trans ((Hb7.out.mono (by omega)).trans hb9)) (by
                have h := hb8.base (Nat.le_succ w.heap.size)
                rw [HC0.out] at h
                unfold macB
                rw [Hs.out, if_neg Hne0.out]
                exact h))
              clear hb8 hg8 hc8 hb9
              go_wp2
              exact hfin.out
            · have k4 : hasN f 110 = false := by rw [G4.out, e]; rfl
              have k5 : hasN f 116 = false := by rw [G5.out, e]; rfl
              have k6 : hasN f 119 = true := by rw [G6.out, e]; rfl
              have k7 : hasN f 114 = false := by rw [G7.out, e]; rfl
              have hne0 : ¬ s.n = 0 := by rw [e]; decide
              have Hne0 := Lib.hid hne0
              clear e hne0
              go_wp2_with (first | (go_at_call 67; refine Has_any f _ (by omega) (by omega) Hsz.out _ _ ?_))
              refine Folded_calls m.n _ Hg.out.num _ ?_
              go_wp2_with fail
              refine rNumber_calls (foldN m.n + 1) (foldN m.n) _ _ hfl (Nat.lt_succ_self _) (fun w7 v7 hb7 hbuf7 => ?_)
              have hz7 := hb7.size
              have hob7 := Lib.hid (Hob.out.below hb7)
              have Hs7 := Lib.hid (hbuf7.SL (Nat.le_refl _))
              have hl7 := numB_len (foldN m.n)
              obtain ⟨A7, c7, rfl⟩ := hbuf7.slice
              have hbase7 := hob7.out.base
              have Hb7 := Lib.hid hb7
              clear hb7 hbuf7 a0 a1 a2 a3 a4 az
              go_wp2_with (at_builtin; refine wpList_app_buf _ rfl _ _ _ rfl Tryz.underlying25 rfl hob7.out.buf rfl Hs7.out (by omega) hbase7 ?_)
              intro v8 w8 hb8 hg8 hc8
              have hb9 := hg8.below (B := w.heap.size) (fun k hk e => by have := (hob7.out.buf.lt k e).1; omega) (by omega)
              have hfin := Lib.hid (HR.out w8 v8 (Hbf.out.trans ((Hb7.out.mono (by omega)).trans hb9)) (by
                have h := hb8.base (Nat.le_succ w.heap.size)
                rw [HC0.out] at h
                unfold macB
                rw [Hs.out, if_neg Hne0.out]
                exact h))
              clear hb8 hg8 hc8 hb9
              go_wp2
              exact hfin.out
            · have k4 : hasN f 110 = false := by rw [G4.out, e]; rfl
              have k5 : hasN f 116 = false := by rw [G5.out, e]; rfl
              have k6 : hasN f 119 = false := by rw [G6.out, e]; rfl
              have k7 : hasN f 114 = true := by rw [G7.out, e]; rfl
              have hne0 : ¬ s.n = 0 := by rw [e]; decide
              have Hne0 := Lib.hid hne0
              clear e hne0
              go_wp2_with (first | (go_at_call 67; refine Has_any f _ (by omega) (by omega) Hsz.out _ _ ?_))
              refine Folded_calls m.n _ Hg.out.num _ ?_
              go_wp2_with fail
              refine rNumber_calls (foldN m.n + 1) (foldN m.n) _ _ hfl (Nat.lt_succ_self _) (fun w7 v7 hb7 hbuf7 => ?_)
              have hz7 := hb7.size
              have hob7 := Lib.hid (Hob.out.below hb7)
              have Hs7 := Lib.hid (hbuf7.SL (Nat.le_refl _))
              have hl7 := numB_len (foldN m.n)
              obtain ⟨A7, c7, rfl⟩ := hbuf7.slice
              have hbase7 := hob7.out.base
              have Hb7 := Lib.hid hb7
              clear hb7 hbuf7 a0 a1 a2 a3 a4 az
              go_wp2_with (at_builtin; refine wpList_app_buf _ rfl _ _ _ rfl Tryz.underlying25 rfl hob7.out.buf rfl Hs7.out (by omega) hbase7 ?_)
              intro v8 w8 hb8 hg8 hc8
              have hb9 := hg8.below (B := w.heap.size) (fun k hk e => by have := (hob7.out.buf.lt k e).1; omega) (by omega)
              have hfin := Lib.hid (HR.out w8 v8 (Hbf.out.trans ((Hb7.out.mono (by omega)).trans hb9)) (by
                have h := hb8.base (Nat.le_succ w.heap.size)
                rw [HC0.out] at h
                unfold macB
                rw [Hs.out, if_neg Hne0.out]
                exact h))
              clear hb8 hg8 hc8 hb9
              go_wp2
              exact hfin.out
end Go.Proofs.YtcakodemngchpaaGreatDoor

/- R.CodeBytes: the bytes of instructions. -/
namespace Go.Proofs.YtcakodemngchpaaGreatDoor
open Go.RowKit
set_option linter.unusedSimpArgs false
set_option linter.unusedVariables false

theorem codeB_len (l : List Mac) : (codeB l).length ≤ 14 * l.length := by
  induction l with
  | nil => simp [codeB]
  | cons m l ih =>
    have := macB_len m
    unfold codeB at *
    rw [List.flatMap_cons, List.length_append, List.length_cons]
    omega
theorem codeB_step {l : List Mac} {k : Nat} {m : Mac} (h : l[k]? = some m) : codeB (l.take (k + 1)) = codeB (l.take k) ++ macB m := by
  unfold codeB
  rw [take_snoc h, List.flatMap_append]
  simp

set_option maxRecDepth 100000 in
set_option maxHeartbeats 4000000 in
theorem CodeBytes_calls (l : List Mac) (v : Value) (w : World) (h : rpMac.SL w w.heap.size l v) (hg : ∀ m ∈ l, GoodMac m) (hlen : l.length ≤ 100000) (R : Ending → World → Prop)
    (hR : ∀ w' v', Below w.heap.size w w' → Buf w' w.heap.size v' (codeB l) → R (.returned v') w') :
    Calls Tryz.prog 16 #[v] w R := by
  obtain ⟨A, c, rfl, hm, hcap, h⟩ := h.cases_
  have HR := Lib.hid hR
  have H := Lib.hid h
  have Hg := Lib.hid hg
  clear hR h hg
  go_enter Tryz.func16, Tryz.ntmps16
  go_wp2_with fail
  go_loopg [3, 4] l.length (fun gh s3 i wr => ∃ k : Nat, k ≤ l.length ∧ gh = l.length - k ∧ i = .int .i64 (k : Int) ∧ OB w.heap.size s3 (codeB (l.take k)) w wr)
  case atStart => exact ⟨0, Nat.zero_le _, rfl, rfl, ⟨.inl (World.ownsRow_nil _ _ _ _), Below.refl _ _, Nat.le_refl _⟩⟩
  case round =>
    obtain ⟨k, hk, rfl, rfl, hob⟩ := hrel
    obtain ⟨A3, c3, rfl⟩ := hob.buf.slice
    have Hob := Lib.hid hob
    have hbw := hob.bel
    have hcl := codeB_len (l.take k)
    rw [List.length_take] at hcl
    have i1 : (0 : Int) ≤ (k : Int) := Int.natCast_nonneg _
    clear hob
    by_cases hlt : k < l.length
    · obtain ⟨b, off, cs, rfl, hb, hr, hcs⟩ := H.out.at_ (List.getElem?_eq_getElem hlt)
      have e : l[k]? = some l[k] := List.getElem?_eq_getElem hlt
      have hmg := Hg.out _ (List.getElem_mem hlt)
      have hst := Lib.hid (codeB_step e)
      generalize l[k] = m at *
      rw [rpMac_rep] at hr
      subst hr
      have p0 := (hbw.cell (p := ⟨b, off + k * 5, none⟩) hb).trans (hcs 0 _ rfl)
      have p1 := (hbw.cell (p := ⟨b, off + k * 5 + 1, none⟩) hb).trans (hcs 1 _ rfl)
      have p2 := (hbw.cell (p := ⟨b, off + k * 5 + 2, none⟩) hb).trans (hcs 2 _ rfl)
      have p3 := (hbw.cell (p := ⟨b, off + k * 5 + 3, none⟩) hb).trans (hcs 3 _ rfl)
      have p4 := (hbw.cell (p := ⟨b, off + k * 5 + 4, none⟩) hb).trans (hcs 4 _ rfl)
      have i2 : (k : Int) < (l.length : Int) := by omega
      have hml := macB_len m
      clear hcs e hbw
      go_wp2_with fail
      refine MacBytes_calls m hmg _ _ (fun w5 v5 hb5 hbuf5 => ?_)
      obtain ⟨A5, c5, rfl⟩ := hbuf5.slice
      have hob5 := Lib.hid (Hob.out.below hb5)
      have Hs5 := Lib.hid (hbuf5.SL (Nat.le_refl _))
      have hbase := hob5.out.base
      clear hb5 hbuf5 p0 p1 p2 p3 p4
      go_wp2_with (at_builtin; refine wpList_app_buf _ rfl _ _ _ rfl Tryz.underlying25 rfl hob5.out.buf rfl Hs5.out (by omega) hbase ?_)
      intro v6 w6 hb6 hg6 hc6
      have hob6 := Lib.hid (hob5.out.app hb6 hg6)
      clear hb6 hg6 hc6
      go_wp2
      go_roundg (l.length - (k + 1))
      case measure => omega
      case rel => exact ⟨k + 1, hlt, rfl, by go_num, by rw [hst.out]; exact hob6.out⟩
    · obtain rfl : k = l.length := by omega
      have hfin := Lib.hid (HR.out _ (.slice A3 (codeB (l.take l.length)).length c3) hbw (by have := Hob.out.buf; rw [List.take_length] at this ⊢; exact this))
      clear hbw
      go_wp2
      exact hfin.out
end Go.Proofs.YtcakodemngchpaaGreatDoor
