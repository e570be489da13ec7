/- The law that objects come back from their bundle, and that a byte that is changed is seen. -/
import Derived.Test.YtfhnmbnniklmiaaDoorBase
import Derived.Test.YtfhnmbnniklmiaaDoorRows
import Derived.IntWalk
import Derived.Outline
import Derived.Deep.LoopGhost
import Derived.Deep.CutBlock
import Derived.Deep.DeepCutAuto
import Derived.Deep.RegionHeld3
import Derived.Test.YtfhnmbnniklmiaaDoorKb1
import Derived.Test.YtfhnmbnniklmiaaDoorSeenP
import Derived.Test.YtfhnmbnniklmiaaDoorCopyA
import Derived.Test.YtfhnmbnniklmiaaDoorBunC
import Derived.Test.YtfhnmbnniklmiaaDoorSameA
namespace Go.Proofs.YtfhnmbnniklmiaaDoor
open Go.RowKit
set_option linter.unusedSimpArgs false
set_option linter.unusedVariables false

theorem bits_xor_u8 (a b : UInt8) : bits .xor .u8 (a.toNat : Int) (b.toNat : Int) = (((a ^^^ b).toNat : Nat) : Int) := by
  show IntKind.u8.wrap ((BitVec.ofInt 8 (a.toNat : Int) ^^^ BitVec.ofInt 8 (b.toNat : Int)).toNat : Int) = _
  have ha := a.toNat_lt
  have hb := b.toNat_lt
  have hx : a.toNat ^^^ b.toNat < 256 := Nat.xor_lt_two_pow (n := 8) ha hb
  rw [BitVec.toNat_xor, BitVec.ofInt_natCast, BitVec.ofInt_natCast, BitVec.toNat_ofNat, BitVec.toNat_ofNat, Nat.mod_eq_of_lt (by omega), Nat.mod_eq_of_lt (by omega), IntKind.wrap_u8, UInt8.toNat_xor]
  omega
theorem own_byte_set {w : World} {base g cap K : Nat} {e : TypeId} {bs : List UInt8} (h : w.ownsRow base e 1 (.slice (some ⟨g, 0, none⟩) bs.length cap) bs.length (bs.flatMap byteCells)) (hK : K < bs.length) (x : UInt8) :
    (w.setCell ⟨g, K, none⟩ (.int .u8 (x.toNat : Nat))).ownsRow base e 1 (.slice (some ⟨g, 0, none⟩) (bs.set K x).length cap) (bs.set K x).length ((bs.set K x).flatMap byteCells) := by
  have := own_setCells (vs := byteCells x) (o := K * 1) h (by simp [byteCells]; omega) (Nat.le_refl _) ((bs.set K x).flatMap byteCells) (by
    rw [flat_set byteCells 1 (fun _ => rfl) bs K x hK, List.take_of_length_le]
    rw [flat_length byteCells 1 (fun _ => rfl), List.length_set]
    omega)
  rw [List.length_set]
  rw [Nat.mul_one] at this
  exact this

theorem sumB_len (A : List UInt8) : (sumB A).length = A.length + 2 := by unfold sumB; simp
theorem sumB_take (A : List UInt8) : (sumB A).take A.length = A := by unfold sumB; rw [List.take_left]
theorem sumB_last (A : List UInt8) : (sumB A)[A.length]? = some (UInt8.ofNat (sumL A / 256)) ∧ (sumB A)[A.length + 1]? = some (UInt8.ofNat (sumL A % 256)) := by
  unfold sumB
  constructor
  · rw [List.getElem?_append_right (Nat.le_refl _)]
    simp
  · rw [List.getElem?_append_right (by omega)]
    simp
theorem sumB_seen {A B : List UInt8} {k : Nat} {x : UInt8} (h : sumB A = (sumB B).set k x) (hk : k < (sumB B).length) (hx : x ≠ (sumB B).getD k 0) : False := by
  have hl := congrArg List.length h
  rw [List.length_set, sumB_len, sumB_len] at hl
  have hl' : A.length = B.length := by omega
  have hA := sumL_lt A
  have hB := sumL_lt B
  by_cases hkB : k < B.length
  · have hta : A = B.set k x := by
      have := congrArg (List.take B.length) h
      rw [← hl', sumB_take, hl', List.take_set, sumB_take] at this
      exact this
    have h1 : (sumB A)[A.length]? = (sumB B)[B.length]? := by rw [h, hl', List.getElem?_set_ne (by omega)]
    have h2 : (sumB A)[A.length + 1]? = (sumB B)[B.length + 1]? := by rw [h, hl', List.getElem?_set_ne (by omega)]
    rw [(sumB_last A).1, (sumB_last B).1] at h1
    rw [(sumB_last A).2, (sumB_last B).2] at h2
    have e1 := congrArg UInt8.toNat (Option.some.inj h1)
    have e2 := congrArg UInt8.toNat (Option.some.inj h2)
    rw [UInt8.toNat_ofNat', UInt8.toNat_ofNat'] at e1 e2
    have e3 : sumL A = sumL B := by omega
    have hx' : x ≠ B.getD k 0 := by
      intro e
      apply hx
      rw [e]
      unfold sumB
      rw [List.getD_eq_getElem?_getD, List.getD_eq_getElem?_getD, List.getElem?_append_left hkB]
    have := sumFrom_set B k 0 x (by decide) hkB hx'
    rw [← hta] at this
    exact this e3
  · have hta : A = B := by
      have := congrArg (List.take B.length) h
      rw [← hl', sumB_take, hl', List.take_set_of_le (by omega), sumB_take] at this
      exact this
    subst hta
    have h1 : (sumB A).getD k 0 = ((sumB A).set k x).getD k 0 := congrArg (fun l => List.getD l k 0) h
    rw [getD_set_same x hk] at h1
    exact hx h1.symm
theorem bun_seen {b : List UInt8} {l : List Object} {k : Nat} (d : UInt8) (h : openL b = some l) (hk : k < b.length) : decide ((openF (b.set k (b.getD k 0 ^^^ d))).1 = 0) = decide (d = 0) := by
  obtain ⟨hl, h2, h3, _⟩ := openL_some.1 h
  by_cases hd : d = 0
  · subst hd
    rw [UInt8.xor_zero]
    have e : b.set k (b.getD k 0) = b := by
      apply List.ext_getElem?
      intro j
      by_cases e : k = j
      · subst e
        rw [List.getElem?_set_self hk, List.getD_eq_getElem?_getD, List.getElem?_eq_getElem hk]
        rfl
      · rw [List.getElem?_set_ne e]
    rw [e, (openF_some h).1]
    simp
  · rw [decide_eq_false hd]
    apply decide_eq_false
    intro hz
    have hx : b.getD k 0 ^^^ d ≠ b.getD k 0 := fun e => hd (xor_same e)
    obtain ⟨cs, hcs⟩ : ∃ cs, cs = b.set k (b.getD k 0 ^^^ d) := ⟨_, rfl⟩
    rw [← hcs] at hz
    cases ho : openL cs with
    | none =>
      have hcl : cs.length = b.length := by rw [hcs, List.length_set]
      rw [(openF_none (by omega) ho).1] at hz
      simp at hz
    | some l' =>
      obtain ⟨_, _, h4, _⟩ := openL_some.1 ho
      subst h3
      have h5 : sumB (bunB l') = (sumB (bunB l)).set k ((packB l).getD k 0 ^^^ d) := h4.trans hcs
      exact sumB_seen h5 hk hx

set_option maxRecDepth 100000 in
set_option maxHeartbeats 8000000 in
theorem BunBack_calls (raw : List (List Int)) (v : Value) (at_ : Int) (d : UInt8) (w : World) (h : rpInt.slice.SL w w.heap.size raw v) (hraw : ∀ l ∈ raw, ∀ x ∈ l, I64 x) (hat : I64 at_) (hS : Shapes w) (R : Ending → World → Prop)
    (hR : ∀ w', Below w.heap.size w w' → R (.returned (.bool true)) w') :
    Calls Tryd.prog 10 #[v, .int .i64 at_, .int .u8 d.toNat] w R := by
  have h0 := hS.1
  obtain ⟨iB, hiB, zB0, zB1, zB2⟩ := info_parts info_byte
  obtain ⟨A, c, rfl, hm, hcap, h⟩ := h.cases_
  have HR := Lib.hid hR
  have H := Lib.hid h
  have Hraw := Lib.hid hraw
  have HSh := Lib.hid hS
  have Hat := Lib.hid hat
  obtain ⟨k1, k2, k3⟩ := kit_pack hraw
  have hwide : ∀ o ∈ kitL raw, Wide o := bunL_wide (objOf_wide raw 6 true) _
  have hkl : (kitL raw).length = (objOf raw 6 true).sections.length := bunL_len _ _
  have hk6 := kit_secs raw
  have hfew := kit_few hraw
  obtain ⟨l, hl⟩ : ∃ l, l = kitL raw := ⟨_, rfl⟩
  rw [← hl] at k1 k2 k3 hwide hkl hfew
  obtain ⟨k4, k5⟩ := openF_some k3
  have K1 := Lib.hid k1
  have K2 := Lib.hid k2
  have K3 := Lib.hid k3
  have K4 := Lib.hid k4
  have K5 := Lib.hid k5
  have Hwide := Lib.hid hwide
  have Hl := Lib.hid hl
  have hl6 : l.length ≤ 6 := by omega
  have hlow : 7 ≤ (packB l).length := by have := (bunB_head l).2; rw [packB_len]; omega
  clear hR h hraw hS k1 k2 k3 k4 k5 hwide hkl hl hat
  go_enter Tryd.func10, Tryd.ntmps10
  go_wp2_with fail
  refine bundled_calls raw _ _ H.out Hraw.out _ (fun w1 v1 hb1 hs1 => ?_)
  rw [← Hl.out] at hs1
  obtain ⟨A1, c1, rfl, _, _, hs1⟩ := hs1.cases_
  have Hb1 := Lib.hid hb1
  have Hs1 := Lib.hid hs1
  clear hb1 hs1
  go_wp2_with fail
  refine Pack_calls l _ _ Hs1.out Hwide.out (HSh.out.up Hb1.out h0) _ (fun w2 v2 hb2 hbuf => ?_)
  rw [K1.out]
  rw [K2.out] at hbuf
  obtain ⟨bs, hbs⟩ : ∃ bs, bs = packB l := ⟨_, rfl⟩
  rw [← hbs] at hbuf hlow hfew
  have Hbs := Lib.hid hbs
  obtain ⟨A2, c2, rfl⟩ := hbuf.slice
  obtain ⟨W2, hW2⟩ : ∃ W2, W2 = w2.alloc (Obj.cells #[.int .i64 0, .int .i64 0] 25) := ⟨_, rfl⟩
  have hF2 : W2.heap[w2.heap.size]? = some (.cells #[.int .i64 0, .int .i64 0] 25 (0, 0)) := by subst hW2; exact heap_alloc_new _ _
  have hbw2 : Below w2.heap.size w2 W2 := by subst hW2; exact (by repeat (first | exact Below.refl _ _ | assumption | refine below_drewN ?_ _ | refine Below.drew ?_ | refine Below.setCell ?_ (by first | omega | (simp; done) | (simp; omega)) _ | refine Below.alloc ?_ (by first | omega | (simp; done) | (simp; omega)) _ | refine below_step (by assumption) ?_ (by first | omega | (simp; done) | (simp; omega))))
  have hb12 : Below w1.heap.size w1 W2 := hb2.trans (hbw2.mono hb2.size)
  have Hb12 := Lib.hid hb12
  have HB2 := Lib.hid ((hbuf.SL (Nat.le_refl _)).up hbw2 hbw2.size)
  have HF2 := Lib.hid hF2
  have hl2 := blk_lt hF2
  have Hbw2 := Lib.hid (Hb1.out.trans (hb12.mono Hb1.out.size))
  have HW2 := Lib.hid hW2.symm
  clear hb2 hbuf hW2 hF2 hbw2 hb12 hbs
  go_upto_region 3 with fail
  rw [HW2.out]
  go_wp2_with fail
  refine Open_calls _ bs _ HB2.out (HSh.out.up Hbw2.out h0) _ (fun w3 v3 hb3 hs3 => ?_)
  rw [Hbs.out, K5.out] at hs3
  rw [show openF bs = (0, 0) from by rw [Hbs.out]; exact K4.out]
  obtain ⟨A3, c3, rfl, _, _, hs3⟩ := hs3.cases_
  obtain ⟨W3, hW3⟩ : ∃ W3, W3 = w3.alloc (Obj.cells #[.int .i64 0, .int .i64 0] 25) := ⟨_, rfl⟩
  have hF3 : W3.heap[w3.heap.size]? = some (.cells #[.int .i64 0, .int .i64 0] 25 (0, 0)) := by subst hW3; exact heap_alloc_new _ _
  have hbw3 : Below w3.heap.size w3 W3 := by subst hW3; exact (by repeat (first | exact Below.refl _ _ | assumption | refine below_drewN ?_ _ | refine Below.drew ?_ | refine Below.setCell ?_ (by first | omega | (simp; done) | (simp; omega)) _ | refine Below.alloc ?_ (by first | omega | (simp; done) | (simp; omega)) _ | refine below_step (by assumption) ?_ (by first | omega | (simp; done) | (simp; omega))))
  have hb23 : Below W2.heap.size W2 W3 := hb3.trans (hbw3.mono hb3.size)
  obtain ⟨f0, f1⟩ := cells_blk ((hb23.block _ hl2).trans HF2.out)
  obtain ⟨e0, e1⟩ := cells_blk hF3
  have hl3 := blk_lt hF3
  have hz23 := hb23.size
  have hl23 : w2.heap.size < W3.heap.size := by omega
  have Hend := Lib.hid (Hbw2.out.trans (hb23.mono Hbw2.out.size))
  have HB3 := Lib.hid (HB2.out.up hb23 hb23.size)
  have HL3 := Lib.hid ((Hs1.out.up Hb12.out Hb12.out.size).up hb23 hb23.size)
  have HX3 := Lib.hid (hs3.SL.up hbw3 hbw3.size)
  have HW3 := Lib.hid hW3.symm
  have hll : ((l.length : Int) != (l.length : Int)) = false := by simp
  have i7 : ¬ (bs.length : Int) < 7 := by omega
  clear hb3 hW3 hF3 hbw3 hb23 hs3
  go_upto_region 4 with fail
  rw [HW3.out]
  go_wp2_with fail
  refine bundleSure_calls _ (HSh.out.up Hend.out h0) _ (fun w5 hb5 => ?_)
  have Hend5 := Lib.hid (Hend.out.trans (hb5.mono Hend.out.size))
  have HB5 := Lib.hid (HB3.out.up hb5 hb5.size)
  have HL5 := Lib.hid (HL3.out.up hb5 hb5.size)
  have HX5 := Lib.hid (HX3.out.up hb5 hb5.size)
  have hz5 := hb5.size
  clear hb5 f0 f1 e0 e1
  go_wp2_with fail
  go_loopg [12] l.length (fun g s12 wr => ∃ k : Nat, k ≤ l.length ∧ g = l.length - k ∧ s12 = .int .i64 (k : Int) ∧ Below w5.heap.size w5 wr)
  case atStart => exact ⟨0, Nat.zero_le _, rfl, rfl, Below.refl _ _⟩
  case round =>
    obtain ⟨k, hk, rfl, rfl, hbel⟩ := hrel
    have Hbel := Lib.hid hbel
    have hz := hbel.size
    have j1 : (0 : Int) ≤ (k : Int) := Int.natCast_nonneg _
    by_cases hlt : k < l.length
    · obtain ⟨b, off, o, v1, v2, rfl, hb, e, h1, h2, r0, r1⟩ := HX5.out.object_at hlt
      obtain ⟨b', off', o', v1', v2', rfl, hb', e', h1', h2', r0', r1'⟩ := HL5.out.object_at hlt
      obtain rfl : o = o' := Option.some.inj (e.symm.trans e')
      have j2 : (k : Int) < (l.length : Int) := by omega
      have HSS : Hid (∀ W, Below w5.heap.size w5 W → (fun W : World => W.cell? ⟨b, off + k * 2, none⟩ = some v1 ∧ W.cell? ⟨b, off + k * 2 + 1, none⟩ = some v2 ∧ W.cell? ⟨b', off' + k * 2, none⟩ = some v1' ∧ W.cell? ⟨b', off' + k * 2 + 1, none⟩ = some v2') W) := Lib.hid fun W h =>
        ⟨(h.cell (p := ⟨b, off + k * 2, none⟩) hb).trans r0, (h.cell (p := ⟨b, off + k * 2 + 1, none⟩) hb).trans r1, (h.cell (p := ⟨b', off' + k * 2, none⟩) hb').trans r0', (h.cell (p := ⟨b', off' + k * 2 + 1, none⟩) hb').trans r1'⟩
      have hS0 := HSS.out wr.drew hbel.drew
      have hSa := HSS.out wr hbel
      have H1 := Lib.hid h1
      have H2 := Lib.hid h2
      have H1' := Lib.hid h1'
      have H2' := Lib.hid h2'
      clear r0 r1 r0' r1' e e' h1 h2 h1' h2' hbel
      go_wp2_with fail
      first | go_region_held3 (fun W : World => W.cell? ⟨b, off + k * 2, none⟩ = some v1 ∧ W.cell? ⟨b, off + k * 2 + 1, none⟩ = some v2 ∧ W.cell? ⟨b', off' + k * 2, none⟩ = some v1' ∧ W.cell? ⟨b', off' + k * 2 + 1, none⟩ = some v2') (first | with_reducible exact hS0 | with_reducible exact hSa | with_reducible exact hS5) (first
        | (go_at_call 24; with_reducible refine SameObject_calls o v1 v2 v1' v2' _ (by first | with_reducible exact H1.out.up Hbel.out Hbel.out.size | with_reducible exact H1.out.up Hbel.out.drew Hbel.out.drew.size) (by first | with_reducible exact H2.out.up Hbel.out Hbel.out.size | with_reducible exact H2.out.up Hbel.out.drew Hbel.out.drew.size) (by first | with_reducible exact H1'.out.up Hbel.out Hbel.out.size | with_reducible exact H1'.out.up Hbel.out.drew Hbel.out.drew.size) (by first | with_reducible exact H2'.out.up Hbel.out Hbel.out.size | with_reducible exact H2'.out.up Hbel.out.drew Hbel.out.drew.size) _ ?_; intro w6 hb6; have hbe6 : Below wr.heap.size wr w6 := (by first | with_reducible exact hb6 | with_reducible exact below_of_drew hb6); have hbb6 := Hbel.out.trans (hbe6.mono hz); have hS5 := HSS.out w6 hbb6; have Hb6 := Lib.hid hbb6; clear hb6 hbe6 hbb6)) | fail
      all_goals
        go_wp2
        go_roundg (l.length - (k + 1))
        case measure => omega
        case rel => exact ⟨k + 1, hlt, rfl, by go_num, Hb6.out⟩
    · obtain rfl : k = l.length := by omega
      have j2 : ¬ (l.length : Int) < (l.length : Int) := by omega
      have Hb2 := Lib.hid (Hend5.out.trans (hbel.mono Hend5.out.size))
      have hsl := HB5.out.up hbel hbel.size
      obtain ⟨b3, o3, rfl, hb3, hc3⟩ := hsl.byte_at (k := 0) (by omega)
      have hnews := Lib.hid (hsl.news (f := byteCells) (fun _ _ _ _ h => h) (fun _ => rfl) (by decide))
      have hone : ∀ u ∈ bs.flatMap byteCells, u.oneCell' = true := by
        intro u hu
        obtain ⟨x, _, hx⟩ := List.mem_flatMap.1 hu
        simp [byteCells] at hx
        subst hx
        rfl
      have Hone := Lib.hid hone
      clear hone hsl hc3 hbel
      go_wp2_with (at_builtin; refine wpList_append_own _ rfl _ _ 39 rfl wr.heap.size 5 iB _ 1 1 Tryd.underlying39 hiB zB0 zB1 zB2 rfl (by decide) (.slice none 0 0) 0 [] rfl (World.ownsRow_nil _ _ _ _) ⟨b3, o3, none⟩ bs.length c2 (bs.flatMap byteCells) rfl (flat_length byteCells 1 (fun _ => rfl) bs) hnews.out Hone.out (by unfold maxLen; omega) (by omega) (Nat.le_refl _) ?_)
      intro v4 w4 hown4 hgrow4 _
      try simp only [Nat.zero_add, List.nil_append] at hown4
      obtain ⟨g, cap, rfl, hg1, hg2, hg3, hg4⟩ := own_some hown4 (by omega)
      have hz4 := hgrow4.size
      have Hown4 := Lib.hid hown4
      have hw4 : w.heap.size ≤ wr.heap.size := Hb2.out.size
      have Hb4 := Lib.hid (Hb2.out.grown hgrow4 hw4 (fun k e => by cases e))
      clear hown4 hgrow4
      have hp0 : (0 : Int) < (bs.length : Int) := by omega
      have hr1 := Int.emod_nonneg at_ (show (bs.length : Int) ≠ 0 by omega)
      have hr2 := Int.emod_lt_of_pos at_ hp0
      obtain ⟨K, hK⟩ : ∃ K : Nat, at_ % (bs.length : Int) = (K : Int) := ⟨(at_ % (bs.length : Int)).toNat, by omega⟩
      rw [hK] at hr1 hr2
      have hKl : K < bs.length := by omega
      have HK := Lib.hid hK
      clear hK hr1 hr2
      go_wp2_with fail
      refine Picked_calls _ _ (by omega) (by omega) Hat.out _ _ ?_
      rw [HK.out]
      have hsl4 := SLbyte_own Hown4.out (Nat.le_refl _)
      obtain ⟨b', off', e', _, hcK⟩ := hsl4.byte_at (k := K) (by omega)
      cases e'
      rw [Nat.zero_add] at hcK
      have hfz := (own_there Hown4.out K (by omega)).2
      have hdef : bs[K] = bs.getD K 0 := by rw [List.getD_eq_getElem?_getD, List.getElem?_eq_getElem hKl]; rfl
      rw [hdef] at hcK
      have hx := bits_xor_u8 (bs.getD K 0) d
      have hown6 := own_byte_set Hown4.out hKl (bs.getD K 0 ^^^ d)
      have hseen := bun_seen (b := bs) (k := K) d (by rw [Hbs.out]; exact K3.out) hKl
      obtain ⟨cs, hcs⟩ : ∃ cs, cs = bs.set K (bs.getD K 0 ^^^ d) := ⟨_, rfl⟩
      rw [← hcs] at hown6 hseen
      have hcl : cs.length = bs.length := by rw [hcs, List.length_set]
      obtain ⟨y, hy⟩ : ∃ y : Int, y = bits .xor .u8 ((bs.getD K 0).toNat : Int) (d.toNat : Int) := ⟨_, rfl⟩
      rw [← hy] at hx
      rw [← hx, hcl] at hown6
      have Hy := Lib.hid hy.symm
      have Hown6 := Lib.hid hown6
      have Hseen := Lib.hid hseen
      have Hcl := Lib.hid hcl
      have i1 : (0 : Int) ≤ (K : Int) := Int.natCast_nonneg _
      have i2 : (K : Int) < (bs.length : Int) := by omega
      generalize (bs.getD K 0).toNat = x0 at *
      clear hsl4 hdef hx hown6 hseen hcs hcl hy
      go_wp2_with fail
      rw [Hy.out]
      have hbS := Hb4.out.setCell (p := ⟨g, K, none⟩) (by show w.heap.size ≤ g; omega) (.int .u8 y)
      have hcap2 : rpByte.SL (w4.setCell ⟨g, K, none⟩ (.int .u8 y)) (w4.setCell ⟨g, K, none⟩ (.int .u8 y)).heap.size cs (.slice (some ⟨g, 0, none⟩) bs.length cap) := by
        have := Hown6.out
        rw [← Hcl.out] at this ⊢
        exact SLbyte_own this (Nat.le_refl _)
      refine Open_calls _ cs _ hcap2 (HSh.out.up hbS h0) _ (fun w6 v6 hb6 hs6 => ?_)
      have Hend6 := Lib.hid (HR.out _ ((hbS.trans (hb6.mono hbS.size)).trans (((Below.refl w6.heap.size w6).alloc (Nat.le_refl _) (Obj.cells #[.int .i64 (openF cs).1, .int .i64 (openF cs).2] 25)).mono (by have := hbS.size; have := hb6.size; omega))))
      obtain ⟨A6, n6, rfl, _, _, _⟩ := hs6.cases_
      have hs := Hseen.out
      generalize openF cs = F at *
      generalize (openO cs).length = lo at *
      obtain ⟨c, x⟩ := F
      simp only [] at hs Hend6 ⊢
      clear hs6 hb6 hcap2 hbS Hseen hcK hfz
      by_cases hd : d = 0
      · subst hd
        have hc : c = 0 := by simpa using hs
        subst hc
        clear hs
        have e : (0 : UInt8).toNat = 0 := rfl
        go_wp2
        exact Hend6.out
      · have hc : c ≠ 0 := by simpa [hd] using hs
        have e1 : (c == 0) = false := by simp [hc]
        have e2 : ((d.toNat : Int) == 0) = false := by
          have : d.toNat ≠ 0 := fun e => hd (UInt8.toNat_inj.1 e)
          simp [this]
        have E := Lib.hid hd
        clear hs hd hc
        go_wp2
        exact Hend6.out
end Go.Proofs.YtfhnmbnniklmiaaDoor
