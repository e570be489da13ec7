/- A byte of a saved object that is changed is seen: the walk. -/
import Derived.Test.YtkodcoianakjoaaDoorBase
import Derived.Test.YtkodcoianakjoaaDoorRows
import Derived.IntWalk
import Derived.Outline
import Derived.Deep.CutBlock
import Derived.Deep.DeepCutAuto
import Derived.Test.YtkodcoianakjoaaDoorBack
import Derived.Test.YtkodcoianakjoaaDoorSeenP
import Derived.Test.YtkodcoianakjoaaDoorCopyA
import Derived.Test.YtkodcoianakjoaaDoorKit1
namespace Go.Proofs.YtkodcoianakjoaaDoor
open Go.RowKit
set_option linter.unusedSimpArgs false
set_option linter.unusedVariables false

theorem bits_xor_u8 (a b : UInt8) : bits .xor .u8 (a.toNat : Int) (b.toNat : Int) = (((a ^^^ b).toNat : Nat) : Int) := by
  show IntKind.u8.wrap ((BitVec.ofInt 8 (a.toNat : Int) ^^^ BitVec.ofInt 8 (b.toNat : Int)).toNat : Int) = _
  have ha := a.toNat_lt
  have hb := b.toNat_lt
  have hx : a.toNat ^^^ b.toNat < 256 := Nat.xor_lt_two_pow (n := 8) ha hb
  rw [BitVec.toNat_xor, BitVec.ofInt_natCast, BitVec.ofInt_natCast, BitVec.toNat_ofNat, BitVec.toNat_ofNat, Nat.mod_eq_of_lt (by omega), Nat.mod_eq_of_lt (by omega), IntKind.wrap_u8, UInt8.toNat_xor]
  omega
theorem own_byte_set {w : World} {base g cap K : Nat} {e : TypeId} {bs : List UInt8} (h : w.ownsRow base e 1 (.slice (some ⟨g, 0, none⟩) bs.length cap) bs.length (bs.flatMap byteCells)) (hK : K < bs.length) (x : UInt8) :
    (w.setCell ⟨g, K, none⟩ (.int .u8 (x.toNat : Nat))).ownsRow base e 1 (.slice (some ⟨g, 0, none⟩) (bs.set K x).length cap) (bs.set K x).length ((bs.set K x).flatMap byteCells) := by
  have := own_setCells (vs := byteCells x) (o := K * 1) h (by simp [byteCells]; omega) (Nat.le_refl _) ((bs.set K x).flatMap byteCells) (by
    rw [flat_set byteCells 1 (fun _ => rfl) bs K x hK, List.take_of_length_le]
    rw [flat_length byteCells 1 (fun _ => rfl), List.length_set]
    omega)
  rw [List.length_set]
  rw [Nat.mul_one] at this
  exact this

set_option maxRecDepth 100000 in
set_option maxHeartbeats 4000000 in
theorem Seen_calls (raw : List (List Int)) (v : Value) (at_ : Int) (d : UInt8) (w : World) (h : rpInt.slice.SL w w.heap.size raw v) (hraw : ∀ l ∈ raw, ∀ x ∈ l, I64 x) (hat : I64 at_) (hS : Shapes w) (R : Ending → World → Prop)
    (hR : ∀ w', Below w.heap.size w w' → R (.returned (.bool true)) w') :
    Calls Tryd.prog 9 #[v, .int .i64 at_, .int .u8 d.toNat] w R := by
  have h0 := hS.1
  obtain ⟨iB, hiB, zB0, zB1, zB2⟩ := info_parts info_byte
  obtain ⟨A, c, rfl, hm, hcap, h⟩ := h.cases_
  obtain ⟨k1, k2, k3, k4, k5⟩ := objOf_back raw 6 true (by decide) hraw
  have hwide := objOf_wide raw 6 true
  have hfew := objOf_few raw 6 true (by decide)
  obtain ⟨o, ho⟩ : ∃ o, o = objOf raw 6 true := ⟨_, rfl⟩
  rw [← ho] at k1 k2 k3 k4 k5 hwide hfew
  have hlow : 7 ≤ (savedB o).length := by
    have := (bodyB_head o).2
    unfold savedB sumB
    simp
    omega
  have HS := Lib.hid hS
  have HR := Lib.hid hR
  have H := Lib.hid h
  have Hraw := Lib.hid hraw
  have Hat := Lib.hid hat
  have K2 := Lib.hid k2
  have K3 := Lib.hid k3
  have K5 := Lib.hid k5
  have Hwide := Lib.hid hwide
  have Ho := Lib.hid ho
  clear hS hR h hraw k1 k2 k3 k4 k5 hwide ho hat
  go_enter Tryd.func9, Tryd.ntmps9
  go_wp2_with fail
  refine KitObject_calls raw _ 6 true _ H.out Hraw.out (by decide) _ (fun w1 u1 u2 hb1 hu1 hu2 => ?_)
  rw [← Ho.out] at hu1 hu2
  have Hb := Lib.hid hb1
  have Hu1 := Lib.hid hu1.SL
  have Hu2 := Lib.hid hu2.SL
  have hz1 := hb1.size
  obtain ⟨A1, n1, rfl, _, _, _⟩ := hu1.cases_
  obtain ⟨A2, n2, rfl, _, _, _⟩ := hu2.cases_
  clear hb1 hu1 hu2
  go_wp2_with fail
  refine Save_calls o _ _ _ Hu1.out Hu2.out Hwide.out (HS.out.up Hb.out h0) _ (fun w2 v2 hb2 hbuf => ?_)
  rw [K2.out]
  rw [K3.out] at hbuf
  obtain ⟨bs, hbs⟩ : ∃ bs, bs = savedB o := ⟨_, rfl⟩
  rw [← hbs] at hbuf hlow hfew
  have hsl := hbuf.SL (Nat.le_refl _)
  obtain ⟨A3, c3, rfl⟩ := hbuf.slice
  obtain ⟨b3, o3, rfl, hb3, hc3⟩ := hsl.byte_at (k := 0) (by omega)
  have hz2 := hb2.size
  obtain ⟨W2, hW2⟩ : ∃ W2, W2 = w2.alloc (Obj.cells #[.int .i64 0, .int .i64 0] 27) := ⟨_, rfl⟩
  have hF2 : W2.heap[w2.heap.size]? = some (.cells #[.int .i64 0, .int .i64 0] 27 (0, 0)) := by subst hW2; exact heap_alloc_new _ _
  have hzW2 : W2.heap.size = w2.heap.size + 1 := by subst hW2; simp
  have hb3 : Below w2.heap.size w2 W2 := by subst hW2; exact (by repeat (first | exact Below.refl _ _ | assumption | refine below_drewN ?_ _ | refine Below.drew ?_ | refine Below.setCell ?_ (by first | omega | (simp; done) | (simp; omega)) _ | refine Below.alloc ?_ (by first | omega | (simp; done) | (simp; omega)) _ | refine below_step (by assumption) ?_ (by first | omega | (simp; done) | (simp; omega))))
  have hnews := Lib.hid ((hsl.up hb3 hb3.size).news (f := byteCells) (fun _ _ _ _ h => h) (fun _ => rfl) (by decide))
  have Hb2 := Lib.hid ((Hb.out.trans (hb2.mono hz1)).trans (hb3.mono (by omega)))
  have HW2 := Lib.hid hW2.symm
  have Hbs := Lib.hid hbs
  obtain ⟨f0, f1⟩ := cells_blk hF2
  have hl2 : w2.heap.size < W2.heap.size := by omega
  have i0 : ¬ (bs.length : Int) < 7 := by omega
  clear hb2 hbuf hsl hc3 hW2 hF2 hb3 hbs
  have hone : ∀ u ∈ bs.flatMap byteCells, u.oneCell' = true := by
    intro u hu
    obtain ⟨x, _, hx⟩ := List.mem_flatMap.1 hu
    simp [byteCells] at hx
    subst hx
    rfl
  have Hone := Lib.hid hone
  clear hone
  go_upto_region 2 with fail
  rw [HW2.out]
  go_wp2_with (at_builtin; refine wpList_append_own _ rfl _ _ 32 rfl W2.heap.size 5 iB _ 1 1 Tryd.underlying32 hiB zB0 zB1 zB2 rfl (by decide) (.slice none 0 0) 0 [] rfl (World.ownsRow_nil _ _ _ _) ⟨b3, o3, none⟩ bs.length c3 (bs.flatMap byteCells) rfl (flat_length byteCells 1 (fun _ => rfl) bs) hnews.out Hone.out (by unfold maxLen; omega) (by omega) (Nat.le_refl _) ?_)
  intro v4 w4 hown4 hgrow4 _
  try simp only [Nat.zero_add, List.nil_append] at hown4
  obtain ⟨g, cap, rfl, hg1, hg2, hg3, hg4⟩ := own_some hown4 (by omega)
  have hz4 := hgrow4.size
  have Hown4 := Lib.hid hown4
  have Hb4 := Lib.hid (Hb2.out.grown hgrow4 (by omega) (fun k e => by cases e))
  clear hown4 hgrow4
  have hp0 : (0 : Int) < (bs.length : Int) := by omega
  have hr := mod_range at_ (bs.length : Int) hp0
  obtain ⟨K, hK⟩ : ∃ K : Nat, at_ % (bs.length : Int) = (K : Int) := ⟨(at_ % (bs.length : Int)).toNat, by omega⟩
  rw [hK] at hr
  have hKl : K < bs.length := by omega
  have HK := Lib.hid hK
  clear hK hr
  go_wp2_with fail
  refine Picked_calls _ _ (by omega) (by omega) Hat.out _ _ ?_
  rw [HK.out]
  have hsl4 := SLbyte_own Hown4.out (Nat.le_refl _)
  obtain ⟨b', off', e', _, hcK⟩ := hsl4.byte_at (k := K) (by omega)
  cases e'
  rw [Nat.zero_add] at hcK
  have hfz := (own_there Hown4.out K (by omega)).2
  have hdef : bs[K] = bs.getD K 0 := by rw [List.getD_eq_getElem?_getD, List.getElem?_eq_getElem hKl]; rfl
  rw [hdef] at hcK
  have hx := bits_xor_u8 (bs.getD K 0) d
  have hown6 := own_byte_set Hown4.out hKl (bs.getD K 0 ^^^ d)
  have hseen := load_seen (b := bs) (k := K) d (by rw [Hbs.out]; exact congrArg Prod.fst K5.out) hKl
  obtain ⟨cs, hcs⟩ : ∃ cs, cs = bs.set K (bs.getD K 0 ^^^ d) := ⟨_, rfl⟩
  rw [← hcs] at hown6 hseen
  have hcl : cs.length = bs.length := by rw [hcs, List.length_set]
  obtain ⟨y, hy⟩ : ∃ y : Int, y = bits .xor .u8 ((bs.getD K 0).toNat : Int) (d.toNat : Int) := ⟨_, rfl⟩
  rw [← hy] at hx
  rw [← hx, hcl] at hown6
  have Hy := Lib.hid hy.symm
  have Hown6 := Lib.hid hown6
  have Hseen := Lib.hid hseen
  have Hcl := Lib.hid hcl
  have i1 : (0 : Int) ≤ (K : Int) := Int.natCast_nonneg _
  have i2 : (K : Int) < (bs.length : Int) := by omega
  generalize (bs.getD K 0).toNat = x0 at *
  clear hsl4 hdef hx hown6 hseen hcs hcl hy
  go_wp2_with fail
  rw [Hy.out]
  have hbS := Hb4.out.setCell (p := ⟨g, K, none⟩) (by show w.heap.size ≤ g; have := Hb2.out.size; omega) (.int .u8 y)
  have hcap2 : rpByte.SL (w4.setCell ⟨g, K, none⟩ (.int .u8 y)) (w4.setCell ⟨g, K, none⟩ (.int .u8 y)).heap.size cs (.slice (some ⟨g, 0, none⟩) bs.length cap) := by
    have := Hown6.out
    rw [← Hcl.out] at this ⊢
    exact SLbyte_own this (Nat.le_refl _)
  refine Load_calls _ cs _ hcap2 (HS.out.up hbS h0) _ (fun w5 u3 u4 hb5 hu3 hu4 => ?_)
  have Hend := Lib.hid (HR.out _ ((hbS.trans (hb5.mono hbS.size)).trans ((((Below.refl w5.heap.size w5).alloc (Nat.le_refl _) (Obj.cells #[u3, u4] 25)).alloc (by simp) (Obj.cells #[.int .i64 (loadF cs).1, .int .i64 (loadF cs).2] 27)).mono (by have := hbS.size; have := hb5.size; omega))))
  obtain ⟨A5, n5, rfl, _, _, _⟩ := hu3.cases_
  obtain ⟨A6, n6, rfl, _, _, _⟩ := hu4.cases_
  have hs := Hseen.out
  generalize loadF cs = F at *
  generalize (loadO cs).globals.length = lg at *
  generalize (loadO cs).sections.length = ls at *
  obtain ⟨c, x⟩ := F
  simp only [] at hs Hend ⊢
  clear hu3 hu4 hb5 hcap2 hbS Hseen f0 f1 hcK hfz
  by_cases hd : d = 0
  · subst hd
    have hc : c = 0 := by simpa using hs
    subst hc
    clear hs
    have e : (0 : UInt8).toNat = 0 := rfl
    go_wp2
    exact Hend.out
  · have hc : c ≠ 0 := by simpa [hd] using hs
    have e1 : (c == 0) = false := by simp [hc]
    have e2 : ((d.toNat : Int) == 0) = false := by
      have : d.toNat ≠ 0 := fun e => hd (UInt8.toNat_inj.1 e)
      simp [this]
    have E := Lib.hid hd
    clear hs hd hc
    go_wp2
    exact Hend.out
end Go.Proofs.YtkodcoianakjoaaDoor
