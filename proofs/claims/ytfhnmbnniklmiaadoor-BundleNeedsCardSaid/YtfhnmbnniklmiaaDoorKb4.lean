/- The law of what is needed: closed, and what two names need is what each needs. -/
import Derived.Test.YtfhnmbnniklmiaaDoorBase
import Derived.Test.YtfhnmbnniklmiaaDoorRows
import Derived.IntWalk
import Derived.Outline
import Derived.Deep.LoopGhost
import Derived.Deep.CutBlock
import Derived.Deep.DeepCutAuto
import Derived.Test.YtfhnmbnniklmiaaDoorKb1
import Derived.Test.YtfhnmbnniklmiaaDoorNeedA
namespace Go.Proofs.YtfhnmbnniklmiaaDoor
open Go.RowKit
set_option linter.unusedSimpArgs false
set_option linter.unusedVariables false

theorem mem_idxsTo {S : List Bool} {i : Nat} : ∀ (k : Nat), (i : Int) ∈ idxsTo S k ↔ i < k ∧ S[i]? = some true
  | 0 => by simp [idxsTo]
  | k + 1 => by
    have ih := mem_idxsTo (S := S) (i := i) k
    rw [idxsTo, List.mem_append, ih]
    by_cases h : S[k]? = some true
    · rw [if_pos h]
      constructor
      · rintro (h1 | h1)
        · exact ⟨by omega, h1.2⟩
        · have : i = k := by have := List.mem_singleton.1 h1; omega
          subst this
          exact ⟨by omega, h⟩
      · rintro ⟨h1, h2⟩
        by_cases e : i = k
        · subst e
          exact .inr (List.mem_singleton.2 rfl)
        · exact .inl ⟨by omega, h2⟩
    · rw [if_neg h]
      constructor
      · rintro (h1 | h1)
        · exact ⟨by omega, h1.2⟩
        · cases h1
      · rintro ⟨h1, h2⟩
        by_cases e : i = k
        · subst e
          exact absurd h2 h
        · exact .inl ⟨by omega, h2⟩
theorem mem_idxsM {S : List Bool} {i : Nat} : (i : Int) ∈ idxsM S ↔ S[i]? = some true := by
  unfold idxsM
  rw [mem_idxsTo]
  constructor
  · exact fun h => h.2
  · intro h
    exact ⟨(List.getElem?_eq_some_iff.1 h).1, h⟩
theorem needF_good {bs : List UInt8} {names : List ByteArray} (h : openF bs = (0, 0)) (hn : names.length ≤ 40) (hpre : ∀ x ∈ names, 0 ≤ ownerL (openO bs) x) : needF bs names = (0, 0) := by
  have hb : badN (openO bs) names = none := by
    unfold badN
    rw [List.findIdx?_eq_none_iff]
    intro x hx
    have := hpre x hx
    simp
    omega
  unfold needF
  rw [h, if_neg (by simp), if_neg (by omega), hb]
theorem needs_got {bs : List UInt8} {names : List ByteArray} {xs : List Int} (h : needF bs names = (0, 0)) (hx : NeedsM bs names xs) : ∃ S, GotM (openO bs) (needKs (openO bs) names) S ∧ xs = idxsM S := by
  unfold NeedsM at hx
  rw [h, if_neg (by simp)] at hx
  exact hx
theorem got_two {l : List Object} {a b : Nat} {Sa Sb S : List Bool} (ha : GotM l [a] Sa) (hb : GotM l [b] Sb) (h : GotM l [a, b] S) (i : Nat) : S[i]? = some true ↔ Sa[i]? = some true ∨ Sb[i]? = some true := by
  constructor
  · intro hi
    have hz : ∀ j : Nat, (List.zipWith or Sa Sb)[j]? = some true ↔ (Sa[j]? = some true ∨ Sb[j]? = some true) := fun j => by
      rw [List.getElem?_zipWith]
      have hl : Sa.length = Sb.length := ha.len.trans hb.len.symm
      rcases Nat.lt_or_ge j Sa.length with h1 | h1
      · rw [List.getElem?_eq_getElem h1, List.getElem?_eq_getElem (show j < Sb.length by omega)]
        simp
      · rw [List.getElem?_eq_none h1, List.getElem?_eq_none (show Sb.length ≤ j by omega)]
        simp
    have hT : ClosedM l (List.zipWith or Sa Sb) := fun x o hx ho m hm j hj => by
      rw [hz] at hx ⊢
      rcases hx with hx | hx
      · exact .inl (ha.closed x o hx ho m hm j hj)
      · exact .inr (hb.closed x o hx ho m hm j hj)
    have := h.least _ hT (fun k hk => by
      rw [hz]
      rcases List.mem_cons.1 hk with rfl | hk
      · exact .inl (ha.has _ (by simp))
      · obtain rfl : k = b := by simpa using hk
        exact .inr (hb.has _ (by simp))) i hi
    exact (hz i).1 this
  · rintro (h1 | h1)
    · exact ha.least S h.closed (fun k hk => h.has k (by have : k = a := by simpa using hk
                                                         subst this; simp)) i h1
    · exact hb.least S h.closed (fun k hk => h.has k (by have : k = b := by simpa using hk
                                                         subst this; simp)) i h1

set_option maxHeartbeats 1000000 in
theorem hasInt_calls (xs : List Int) (i : Int) (v : Value) (w : World) (h : rpInt.SL w w.heap.size xs v) (R : Ending → World → Prop)
    (hR : ∀ w', Below w.heap.size w w' → R (.returned (.bool (decide (i ∈ xs)))) w') : Calls Tryd.prog 33 #[v, .int .i64 i] w R := by
  obtain ⟨A, c, rfl, _, _, h⟩ := h.cases_
  have HR := Lib.hid hR
  have H := Lib.hid h
  clear hR h
  go_enter Tryd.func33, Tryd.ntmps33
  go_wp2_with fail
  go_loopg [5] xs.length (fun g s5 wr => ∃ k : Nat, k ≤ xs.length ∧ g = xs.length - k ∧ s5 = .int .i64 (k : Int) ∧ i ∉ xs.take k ∧ Below w.heap.size w wr)
  case atStart => exact ⟨0, Nat.zero_le _, rfl, rfl, by simp, Below.refl _ _⟩
  case round =>
    obtain ⟨k, hk, rfl, rfl, hni, hbel⟩ := hrel
    have Hbel := Lib.hid hbel
    have Hni := Lib.hid hni
    have j1 : (0 : Int) ≤ (k : Int) := Int.natCast_nonneg _
    clear hni
    by_cases hlt : k < xs.length
    · obtain ⟨b, off, cs, hA, hb, hr, q0⟩ := H.out.at_ (List.getElem?_eq_getElem hlt)
      subst hA
      obtain ⟨x, hx⟩ : ∃ x, x = xs[k] := ⟨_, rfl⟩
      rw [← hx] at hr
      have p0 := (hbel.cell (p := ⟨b, off + k * rpInt.size, none⟩) hb).trans (q0 0 (.int .i64 x) (by rw [hr]; rfl))
      rw [show rpInt.size = 1 from rfl, Nat.mul_one] at p0
      have j2 : (k : Int) < (xs.length : Int) := by omega
      have Hx := Lib.hid hx
      clear q0 hbel hr hx
      by_cases he : x = i
      · have hin : i ∈ xs := by rw [← he, Hx.out]; exact List.getElem_mem _
        have hfin := HR.out wr Hbel.out
        rw [decide_eq_true hin] at hfin
        have Hfin := Lib.hid hfin
        have hxx : (x == i) = true := by simp [he]
        clear hfin hin
        go_wp2
        exact Hfin.out
      · have hxx : (x == i) = false := by simp [he]
        have Hni2 : Hid (i ∉ xs.take (k + 1)) := Lib.hid (by
          rw [List.take_succ_eq_append_getElem hlt, ← Hx.out, List.mem_append]
          rintro (h1 | h1)
          · exact Hni.out h1
          · exact he (List.mem_singleton.1 h1).symm)
        clear he
        go_wp2
        go_roundg (xs.length - (k + 1))
        case measure => omega
        case rel => exact ⟨k + 1, hlt, rfl, by go_num, Hni2.out, Hbel.out⟩
    · obtain rfl : k = xs.length := by omega
      rw [List.take_length] at Hni
      have j2 : ¬ (xs.length : Int) < (xs.length : Int) := by omega
      have hfin := HR.out wr hbel
      rw [decide_eq_false Hni.out] at hfin
      have Hfin := Lib.hid hfin
      clear hbel hfin
      go_wp2
      exact Hfin.out

/-- What lies in memory of an object of the bundle's laws. -/
structure KitAt (raw : List (List Int)) (l : List Object) (W : World) (B k b off b4 o4 c4 : Nat) (A6 : Option Addr) (n6 : Nat) (s : Section) : Prop where
  hb : b < B
  hb4 : b4 < B
  hc : 1 ≤ c4
  c1 : W.cell? ⟨b, off + k * 2 + 1, none⟩ = some (.slice (some ⟨b4, o4, none⟩) 1 c4)
  c2 : W.cell? ⟨b4, o4, none⟩ = some (.string s.name)
  c3 : W.cell? ⟨b4, o4 + 2, none⟩ = some (.slice A6 s.mends.length n6)
  md : rpMend.SL W B s.mends (.slice A6 s.mends.length n6)
  at_ : l[k]? = some (segO (objOf raw 6 true) k (k + 1))
  sec : (objOf raw 6 true).sections[k]? = some s
  ms : mendsO (segO (objOf raw 6 true) k (k + 1)) = s.mends
theorem kit_at {raw : List (List Int)} {l : List Object} (hl : l = kitL raw) {W : World} {B n c k : Nat} {A : Option Addr} (h : rpObject.SL W B l (.slice A n c)) (hk : k < l.length) : ∃ b off b4 o4 c4 A6 n6 s, A = some ⟨b, off, none⟩ ∧ KitAt raw l W B k b off b4 o4 c4 A6 n6 s := by
  have hkl : (kitL raw).length = (objOf raw 6 true).sections.length := bunL_len _ _
  have hks : k < (objOf raw 6 true).sections.length := by rw [← hkl, ← hl]; exact hk
  have hs : (objOf raw 6 true).sections[k]? = some (objOf raw 6 true).sections[k] := List.getElem?_eq_getElem hks
  obtain ⟨b, off, o, v1, v2, rfl, hb, e, _, h2, _, r1⟩ := h.object_at hk
  have ho : o = segO (objOf raw 6 true) k (k + 1) := by
    rw [hl] at e
    exact (bunL_get e).2
  subst ho
  rw [seg_one hs] at h2
  obtain ⟨A4, c4, rfl, _, hc4, h2⟩ := h2.cases_
  obtain ⟨b4, o4, s', u1, u2, rfl, hb4, e4, _, h6, q0, _, q2⟩ := h2.section_at (k := 0) (by simp)
  have hss : s' = (objOf raw 6 true).sections[k] := by simpa using e4.symm
  subst hss
  obtain ⟨A6, n6, rfl, _, _, h6⟩ := h6.cases_
  rw [Nat.zero_mul, Nat.add_zero] at q0 q2
  exact ⟨b, off, b4, o4, c4, A6, n6, _, rfl, hb, hb4, by simpa using hc4, r1, q0, q2, h6, e, hs, by unfold mendsO; rw [seg_one hs]; simp⟩
theorem KitAt.up {raw : List (List Int)} {l : List Object} {W W' : World} {k b off b4 o4 c4 n6 : Nat} {A6 : Option Addr} {s : Section} (h : KitAt raw l W W.heap.size k b off b4 o4 c4 A6 n6 s) (hb : Below W.heap.size W W') : KitAt raw l W' W'.heap.size k b off b4 o4 c4 A6 n6 s :=
  ⟨Nat.lt_of_lt_of_le h.hb hb.size, Nat.lt_of_lt_of_le h.hb4 hb.size, h.hc, (hb.cell (p := ⟨b, off + k * 2 + 1, none⟩) h.hb).trans h.c1, (hb.cell (p := ⟨b4, o4, none⟩) h.hb4).trans h.c2, (hb.cell (p := ⟨b4, o4 + 2, none⟩) h.hb4).trans h.c3, h.md.up hb hb.size, h.at_, h.sec, h.ms⟩
theorem strs_made (W : World) (xs : List ByteArray) (hx : xs.length ≤ 100) (hp : 0 < xs.length) : rpStr.SL (W.alloc (.cells (xs.map Value.string).toArray 9)) (W.alloc (.cells (xs.map Value.string).toArray 9)).heap.size xs (.slice (some ⟨W.heap.size, 0, none⟩) xs.length xs.length) := by
  have he : xs.flatMap strCells = xs.map Value.string := by
    induction xs with
    | nil => simp at hp
    | cons x xs ih =>
      rw [List.flatMap_cons, List.map_cons]
      rcases Nat.eq_zero_or_pos xs.length with h0 | h0
      · rw [List.eq_nil_of_length_eq_zero h0]
        rfl
      · rw [ih (by simp at hx; omega) h0]
        rfl
  refine SLstr_own (base := 0) (e := 9) ⟨by rw [he]; simp, .inr ⟨W.heap.size, xs.length, _, rfl, Nat.zero_le _, heap_alloc_new _ _, Nat.le_refl _, by unfold maxLen; omega, by simp, ?_⟩⟩ (Nat.le_refl _)
  rw [he]
  simp only [List.toList_toArray]
  rw [List.take_of_length_le (by simp)]

set_option maxRecDepth 100000 in
set_option maxHeartbeats 8000000 in
theorem BunNeeds_calls (raw : List (List Int)) (v : Value) (a b : Int) (w : World) (h : rpInt.slice.SL w w.heap.size raw v) (hraw : ∀ l ∈ raw, ∀ x ∈ l, I64 x) (ha : I64 a) (hb : I64 b) (hS : Shapes w) (R : Ending → World → Prop)
    (hR : ∀ w', Below w.heap.size w w' → R (.returned (.bool true)) w') :
    Calls Tryd.prog 12 #[v, .int .i64 a, .int .i64 b] w R := by
  have h0 := hS.1
  obtain ⟨A, c, rfl, hm, hcap, h⟩ := h.cases_
  have HR := Lib.hid hR
  have H := Lib.hid h
  have Hraw := Lib.hid hraw
  have HSh := Lib.hid hS
  obtain ⟨k1, k2, k3⟩ := kit_pack hraw
  have hwide : ∀ o ∈ kitL raw, Wide o := bunL_wide (objOf_wide raw 6 true) _
  have hown : ∀ (k : Nat) s, (objOf raw 6 true).sections[k]? = some s → ownerL (kitL raw) s.name = (k : Int) := fun k s hs => bunL_owner (objOf_ok (by decide) hraw) hs
  have hkl : (kitL raw).length = (objOf raw 6 true).sections.length := bunL_len _ _
  have hk6 := kit_secs raw
  obtain ⟨l, hl⟩ : ∃ l, l = kitL raw := ⟨_, rfl⟩
  rw [← hl] at k1 k2 k3 hwide hkl hown
  obtain ⟨k4, k5⟩ := openF_some k3
  have K1 := Lib.hid k1
  have K2 := Lib.hid k2
  have K4 := Lib.hid k4
  have K5 := Lib.hid k5
  have Hwide := Lib.hid hwide
  have Hown := Lib.hid hown
  have Hl := Lib.hid hl
  have hl6 : l.length ≤ 6 := by omega
  clear hR h hraw hS k1 k2 k3 k4 k5 hwide hkl hl hown
  go_enter Tryd.func12, Tryd.ntmps12
  go_wp2_with fail
  refine bundled_calls raw _ _ H.out Hraw.out _ (fun w1 v1 hb1 hs1 => ?_)
  rw [← Hl.out] at hs1
  obtain ⟨A1, c1, rfl, _, _, hs1⟩ := hs1.cases_
  have Hb1 := Lib.hid hb1
  have Hs1 := Lib.hid hs1
  clear hb1 hs1
  go_wp2_with fail
  refine Pack_calls l _ _ Hs1.out Hwide.out (HSh.out.up Hb1.out h0) _ (fun w2 v2 hb2 hbuf => ?_)
  rw [K1.out]
  rw [K2.out] at hbuf
  obtain ⟨bs, hbs⟩ : ∃ bs, bs = packB l := ⟨_, rfl⟩
  rw [← hbs] at hbuf
  have HoF : Hid (openF bs = (0, 0)) := Lib.hid (by rw [hbs]; exact K4.out)
  have HoO : Hid (openO bs = l) := Lib.hid (by rw [hbs]; exact K5.out)
  obtain ⟨A2, c2, rfl⟩ := hbuf.slice
  obtain ⟨W2, hW2⟩ : ∃ W2, W2 = w2.alloc (Obj.cells #[.int .i64 0, .int .i64 0] 25) := ⟨_, rfl⟩
  have hF2 : W2.heap[w2.heap.size]? = some (.cells #[.int .i64 0, .int .i64 0] 25 (0, 0)) := by subst hW2; exact heap_alloc_new _ _
  have hbw2 : Below w2.heap.size w2 W2 := by subst hW2; exact bl0
  have hb12 : Below w1.heap.size w1 W2 := hb2.trans (hbw2.mono hb2.size)
  have Hb12 := Lib.hid hb12
  have HB2 := Lib.hid ((hbuf.SL (Nat.le_refl _)).up hbw2 hbw2.size)
  obtain ⟨f0, f1⟩ := cells_blk hF2
  have hl2 := blk_lt hF2
  have Hbw2 := Lib.hid (Hb1.out.trans (hb12.mono Hb1.out.size))
  have HW2 := Lib.hid hW2.symm
  clear hb2 hbuf hW2 hF2 hbw2 hb12 hbs
  go_upto_region 3 with fail
  rw [HW2.out]
  go_wp2_with fail
  refine bundleSure_calls _ (HSh.out.up Hbw2.out h0) _ (fun w3 hb3 => ?_)
  have Hend3 := Lib.hid (Hbw2.out.trans (hb3.mono Hbw2.out.size))
  have HB3 := Lib.hid (HB2.out.up hb3 hb3.size)
  have HL3 := Lib.hid ((Hs1.out.up Hb12.out Hb12.out.size).up hb3 hb3.size)
  clear hb3 f0 f1
  by_cases hz : l.length = 0
  · have hz0 : ((l.length : Int) == 0) = true := by simp [hz]
    have hfin := Lib.hid (HR.out w3 Hend3.out)
    clear hz
    go_wp2
    exact hfin.out
  have hz0 : ((l.length : Int) == 0) = false := by simp [hz]
  have hpos : (0 : Int) < (l.length : Int) := by omega
  obtain ⟨ka, hka⟩ : ∃ k : Nat, a % (l.length : Int) = (k : Int) := ⟨(a % (l.length : Int)).toNat, by have := Int.emod_nonneg a (show (l.length : Int) ≠ 0 by omega); omega⟩
  obtain ⟨kb, hkb⟩ : ∃ k : Nat, b % (l.length : Int) = (k : Int) := ⟨(b % (l.length : Int)).toNat, by have := Int.emod_nonneg b (show (l.length : Int) ≠ 0 by omega); omega⟩
  have hkal : ka < l.length := by have := Int.emod_lt_of_pos a hpos; omega
  have hkbl : kb < l.length := by have := Int.emod_lt_of_pos b hpos; omega
  have Hka := Lib.hid hka
  have Hkb := Lib.hid hkb
  obtain ⟨ba, oa, b4a, o4a, c4a, A6a, n6a, sa, hAa, hata⟩ := kit_at Hl.out HL3.out hkal
  obtain ⟨bb, ob, b4b, o4b, c4b, A6b, n6b, sb, hAb, hatb⟩ := kit_at Hl.out HL3.out hkbl
  subst hAa
  injection hAb with hAb
  injection hAb with e1 e2
  subst e1 e2
  have hoa := Hown.out ka sa hata.sec
  have hob := Hown.out kb sb hatb.sec
  have Hoa := Lib.hid hoa
  have Hob := Lib.hid hob
  have pa1 := hata.c1
  have pa2 := hata.c2
  have pb1 := hatb.c1
  have pb2 := hatb.c2
  have hc4a := hata.hc
  have hc4b := hatb.hc
  have i0a : (0 : Int) ≤ (ka : Int) := Int.natCast_nonneg _
  have i1a : (ka : Int) < (l.length : Int) := by omega
  have i0b : (0 : Int) ≤ (kb : Int) := Int.natCast_nonneg _
  have i1b : (kb : Int) < (l.length : Int) := by omega
  clear hz hka hkb hata hatb hoa hob
  go_wp2_with fail
  refine Picked_calls a (l.length : Int) hpos (by omega) ha _ _ ?_
  rw [Hka.out]
  go_wp2_with fail
  refine Picked_calls b (l.length : Int) hpos (by omega) hb _ _ ?_
  rw [Hkb.out]
  go_upto_region 9 with fail
  obtain ⟨W5a, hW5a⟩ : ∃ W, W = w3.alloc (.cells ([sa.name].map Value.string).toArray 9) := ⟨_, rfl⟩
  have hbW5a : Below w3.heap.size w3 W5a := by subst hW5a; exact bl0
  have hnW5a : rpStr.SL W5a W5a.heap.size [sa.name] (.slice (some ⟨w3.heap.size, 0, none⟩) 1 1) := by subst hW5a; exact strs_made w3 [sa.name] (by simp) (by simp)
  have hEW5a := Hend3.out.trans (hbW5a.mono Hend3.out.size)
  have HWW5a : Hid (w3.alloc (Obj.cells #[.string sa.name] 9) = W5a) := Lib.hid hW5a.symm
  have HEW5a := Lib.hid hEW5a
  have HNW5a := Lib.hid hnW5a
  have HbW5a := Lib.hid hbW5a
  clear hW5a hbW5a hnW5a hEW5a
  go_wp2_with fail
  rw [HWW5a.out]
  refine Need_calls _ _ bs [sa.name] _ (HB3.out.up HbW5a.out HbW5a.out.size) HNW5a.out (HSh.out.up HEW5a.out h0) _ (fun w5b v5 xs5 hbw5b hx5 hs5 => ?_)
  have hf5 : needF bs [sa.name] = (0, 0) := needF_good HoF.out (by simp) (fun x hx => by
    rw [HoO.out]
    simp only [List.mem_cons, List.not_mem_nil, or_false] at hx
    rcases hx with rfl | rfl <;> first | (rw [Hoa.out]; omega) | (rw [Hob.out]; omega))
  obtain ⟨Sa, hg5, rfl⟩ := needs_got hf5 hx5
  rw [hf5]
  rw [HoO.out, show needKs l [sa.name] = [ka] from by simp [needKs, Hoa.out, Hob.out]] at hg5
  obtain ⟨A5, c5, rfl, _, _, hs5⟩ := hs5.cases_
  obtain ⟨W5c, hW5c⟩ : ∃ W, W = w5b.alloc (Obj.cells #[.int .i64 0, .int .i64 0] 25) := ⟨_, rfl⟩
  have hFW5c : W5c.heap[w5b.heap.size]? = some (.cells #[.int .i64 0, .int .i64 0] 25 (0, 0)) := by subst hW5c; exact heap_alloc_new _ _
  have hbwW5c : Below w5b.heap.size w5b W5c := by subst hW5c; exact bl0
  have hbW5c : Below w3.heap.size w3 W5c := HbW5a.out.trans ((hbw5b.trans (hbwW5c.mono hbw5b.size)).mono HbW5a.out.size)
  have Hend5 := Lib.hid (Hend3.out.trans (hbW5c.mono Hend3.out.size))
  have HB5 := Lib.hid (HB3.out.up hbW5c hbW5c.size)
  have HL5 := Lib.hid (HL3.out.up hbW5c hbW5c.size)
  have HM5 := Lib.hid (hs5.up hbwW5c hbwW5c.size)
  have HF5 := Lib.hid hFW5c
  have HbW5c := Lib.hid hbW5c
  have Hg5 := Lib.hid hg5
  have HWW5c := Lib.hid hW5c.symm
  clear hbw5b hx5 hs5 hf5 hg5 hW5c hFW5c hbwW5c hbW5c
  go_upto_region 10 with fail
  rw [HWW5c.out]
  obtain ⟨W6a, hW6a⟩ : ∃ W, W = W5c.alloc (.cells ([sb.name].map Value.string).toArray 9) := ⟨_, rfl⟩
  have hbW6a : Below W5c.heap.size W5c W6a := by subst hW6a; exact bl0
  have hnW6a : rpStr.SL W6a W6a.heap.size [sb.name] (.slice (some ⟨W5c.heap.size, 0, none⟩) 1 1) := by subst hW6a; exact strs_made W5c [sb.name] (by simp) (by simp)
  have hEW6a := Hend5.out.trans (hbW6a.mono Hend5.out.size)
  have HWW6a : Hid (W5c.alloc (Obj.cells #[.string sb.name] 9) = W6a) := Lib.hid hW6a.symm
  have HEW6a := Lib.hid hEW6a
  have HNW6a := Lib.hid hnW6a
  have HbW6a := Lib.hid hbW6a
  clear hW6a hbW6a hnW6a hEW6a
  go_wp2_with fail
  rw [HWW6a.out]
  refine Need_calls _ _ bs [sb.name] _ (HB5.out.up HbW6a.out HbW6a.out.size) HNW6a.out (HSh.out.up HEW6a.out h0) _ (fun w6b v6 xs6 hbw6b hx6 hs6 => ?_)
  have hf6 : needF bs [sb.name] = (0, 0) := needF_good HoF.out (by simp) (fun x hx => by
    rw [HoO.out]
    simp only [List.mem_cons, List.not_mem_nil, or_false] at hx
    rcases hx with rfl | rfl <;> first | (rw [Hoa.out]; omega) | (rw [Hob.out]; omega))
  obtain ⟨Sb, hg6, rfl⟩ := needs_got hf6 hx6
  rw [hf6]
  rw [HoO.out, show needKs l [sb.name] = [kb] from by simp [needKs, Hoa.out, Hob.out]] at hg6
  obtain ⟨A6, c6, rfl, _, _, hs6⟩ := hs6.cases_
  obtain ⟨W6c, hW6c⟩ : ∃ W, W = w6b.alloc (Obj.cells #[.int .i64 0, .int .i64 0] 25) := ⟨_, rfl⟩
  have hFW6c : W6c.heap[w6b.heap.size]? = some (.cells #[.int .i64 0, .int .i64 0] 25 (0, 0)) := by subst hW6c; exact heap_alloc_new _ _
  have hbwW6c : Below w6b.heap.size w6b W6c := by subst hW6c; exact bl0
  have hbW6c : Below W5c.heap.size W5c W6c := HbW6a.out.trans ((hbw6b.trans (hbwW6c.mono hbw6b.size)).mono HbW6a.out.size)
  have Hend6 := Lib.hid (Hend5.out.trans (hbW6c.mono Hend5.out.size))
  have HB6 := Lib.hid (HB5.out.up hbW6c hbW6c.size)
  have HL6 := Lib.hid (HL5.out.up hbW6c hbW6c.size)
  have HM6 := Lib.hid (hs6.up hbwW6c hbwW6c.size)
  have HF6 := Lib.hid hFW6c
  have HbW6c := Lib.hid hbW6c
  have Hg6 := Lib.hid hg6
  have HWW6c := Lib.hid hW6c.symm
  clear hbw6b hx6 hs6 hf6 hg6 hW6c hFW6c hbwW6c hbW6c
  go_upto_region 11 with fail
  rw [HWW6c.out]
  obtain ⟨W7a, hW7a⟩ : ∃ W, W = W6c.alloc (.cells ([sa.name, sb.name].map Value.string).toArray 9) := ⟨_, rfl⟩
  have hbW7a : Below W6c.heap.size W6c W7a := by subst hW7a; exact bl0
  have hnW7a : rpStr.SL W7a W7a.heap.size [sa.name, sb.name] (.slice (some ⟨W6c.heap.size, 0, none⟩) 2 2) := by subst hW7a; exact strs_made W6c [sa.name, sb.name] (by simp) (by simp)
  have hEW7a := Hend6.out.trans (hbW7a.mono Hend6.out.size)
  have HWW7a : Hid (W6c.alloc (Obj.cells #[.string sa.name, .string sb.name] 9) = W7a) := Lib.hid hW7a.symm
  have HEW7a := Lib.hid hEW7a
  have HNW7a := Lib.hid hnW7a
  have HbW7a := Lib.hid hbW7a
  clear hW7a hbW7a hnW7a hEW7a
  go_wp2_with fail
  rw [HWW7a.out]
  refine Need_calls _ _ bs [sa.name, sb.name] _ (HB6.out.up HbW7a.out HbW7a.out.size) HNW7a.out (HSh.out.up HEW7a.out h0) _ (fun w7b v7 xs7 hbw7b hx7 hs7 => ?_)
  have hf7 : needF bs [sa.name, sb.name] = (0, 0) := needF_good HoF.out (by simp) (fun x hx => by
    rw [HoO.out]
    simp only [List.mem_cons, List.not_mem_nil, or_false] at hx
    rcases hx with rfl | rfl <;> first | (rw [Hoa.out]; omega) | (rw [Hob.out]; omega))
  obtain ⟨Sc, hg7, rfl⟩ := needs_got hf7 hx7
  rw [hf7]
  rw [HoO.out, show needKs l [sa.name, sb.name] = [ka, kb] from by simp [needKs, Hoa.out, Hob.out]] at hg7
  obtain ⟨A7, c7, rfl, _, _, hs7⟩ := hs7.cases_
  obtain ⟨W7c, hW7c⟩ : ∃ W, W = w7b.alloc (Obj.cells #[.int .i64 0, .int .i64 0] 25) := ⟨_, rfl⟩
  have hFW7c : W7c.heap[w7b.heap.size]? = some (.cells #[.int .i64 0, .int .i64 0] 25 (0, 0)) := by subst hW7c; exact heap_alloc_new _ _
  have hbwW7c : Below w7b.heap.size w7b W7c := by subst hW7c; exact bl0
  have hbW7c : Below W6c.heap.size W6c W7c := HbW7a.out.trans ((hbw7b.trans (hbwW7c.mono hbw7b.size)).mono HbW7a.out.size)
  have Hend7 := Lib.hid (Hend6.out.trans (hbW7c.mono Hend6.out.size))
  have HB7 := Lib.hid (HB6.out.up hbW7c hbW7c.size)
  have HL7 := Lib.hid (HL6.out.up hbW7c hbW7c.size)
  have HM7 := Lib.hid (hs7.up hbwW7c hbwW7c.size)
  have HF7 := Lib.hid hFW7c
  have HbW7c := Lib.hid hbW7c
  have Hg7 := Lib.hid hg7
  have HWW7c := Lib.hid hW7c.symm
  clear hbw7b hx7 hs7 hf7 hg7 hW7c hFW7c hbwW7c hbW7c
  go_upto_region 12 with fail
  rw [HWW7c.out]
  have hb57 : Below W5c.heap.size W5c W7c := HbW6c.out.trans (HbW7c.out.mono HbW6c.out.size)
  have hl5 := blk_lt HF5.out
  have hl6 := blk_lt HF6.out
  have hl7 := blk_lt HF7.out
  have hz57 := hb57.size
  have hz67 := HbW7c.out.size
  obtain ⟨f5, _⟩ := cells_blk ((hb57.block _ hl5).trans HF5.out)
  obtain ⟨f6, _⟩ := cells_blk ((HbW7c.out.block _ hl6).trans HF6.out)
  obtain ⟨f7, _⟩ := cells_blk HF7.out
  have HMa := Lib.hid (HM5.out.up hb57 hb57.size)
  have HMb := Lib.hid (HM6.out.up HbW7c.out HbW7c.out.size)
  have hl5' : w5b.heap.size < W7c.heap.size := by omega
  have hl6' : w6b.heap.size < W7c.heap.size := by omega
  have HTwo := Lib.hid (fun i => got_two Hg5.out Hg6.out Hg7.out i)
  have Hall : Hid (∀ W, Below W7c.heap.size W7c W → R (.returned (.bool true)) W) := Lib.hid fun W hW => HR.out W (Hend7.out.trans (hW.mono Hend7.out.size))
  clear hb57
  go_wp2_with fail
  clear f5 f6 f7
  go_loopg [18, 19, 20] l.length (fun gh s18 s19 s20 wr => ∃ i : Nat, i ≤ l.length ∧ gh = l.length - i ∧ s18 = .int .i64 (i : Int) ∧ Below W7c.heap.size W7c wr)
  case atStart => exact ⟨0, Nat.zero_le _, rfl, rfl, Below.refl _ _⟩
  case round =>
    obtain ⟨i, hi, rfl, rfl, hbel⟩ := hrel
    have Hbel := Lib.hid hbel
    have hz := hbel.size
    have i0 : (0 : Int) ≤ (i : Int) := Int.natCast_nonneg _
    clear hbel
    by_cases hil : i < l.length
    · have i1 : (i : Int) < (l.length : Int) := by omega
      obtain ⟨bi, oi, b4i, o4i, c4i, A6i, n6i, si, hAi, hati⟩ := kit_at Hl.out (HL7.out.up Hbel.out Hbel.out.size) hil
      injection hAi with hAi
      injection hAi with e1 e2
      subst e1 e2
      have hq := HTwo.out i
      rw [← mem_idxsM, ← mem_idxsM, ← mem_idxsM] at hq
      have Hmem : Hid ((i : Int) ∈ idxsM Sa ↔ Sa[i]? = some true) := Lib.hid mem_idxsM
      obtain ⟨qc, hqc⟩ : ∃ q, q = decide ((i : Int) ∈ idxsM Sc) := ⟨_, rfl⟩
      obtain ⟨qa, hqa⟩ : ∃ q, q = decide ((i : Int) ∈ idxsM Sa) := ⟨_, rfl⟩
      obtain ⟨qb, hqb⟩ : ∃ q, q = decide ((i : Int) ∈ idxsM Sb) := ⟨_, rfl⟩
      have hqq : qc = (qa || qb) := by rw [hqc, hqa, hqb, ← Bool.decide_or]; exact decide_eq_decide.2 hq
      have Hqa := Lib.hid hqa
      have Hqb := Lib.hid hqb
      have Hqc := Lib.hid hqc
      have Hati := Lib.hid hati
      have hc4i := hati.hc
      clear hq hqa hqb hqc hati
      go_upto_region 17 with fail
      go_cut [112] (fun s112 wx => s112 = .bool false ∧ Below wr.heap.size wr wx)
      case first =>
        go_wp2_with fail
        refine hasInt_calls (idxsM Sc) (i : Int) _ _ (HM7.out.up Hbel.out Hbel.out.size) _ (fun x1 hx1 => ?_)
        rw [← Hqc.out]
        have Hx1 := Lib.hid hx1
        clear hx1
        go_wp2_with fail
        refine hasInt_calls (idxsM Sa) (i : Int) _ _ ((HMa.out.up Hbel.out Hbel.out.size).up Hx1.out Hx1.out.size) _ (fun x2 hx2 => ?_)
        rw [← Hqa.out]
        have Hx2 := Lib.hid (Hx1.out.trans (hx2.mono Hx1.out.size))
        clear hx2
        cases qa with
        | true =>
          have hqc1 : qc = true := by rw [hqq]; rfl
          subst hqc1
          clear hqq
          go_wp2
          go_meet
          exact ⟨rfl, Hx2.out⟩
        | false =>
          have hqc1 : qc = qb := by rw [hqq]; rfl
          subst hqc1
          clear hqq
          go_wp2_with fail
          refine hasInt_calls (idxsM Sb) (i : Int) _ _ ((HMb.out.up Hbel.out Hbel.out.size).up Hx2.out Hx2.out.size) _ (fun x3 hx3 => ?_)
          rw [← Hqb.out]
          have Hx3 := Lib.hid (Hx2.out.trans (hx3.mono Hx2.out.size))
          clear hx3
          cases qc <;>
            (go_wp2
             go_meet
             exact ⟨rfl, Hx3.out⟩)
      case rest =>
        rename World => wi
        obtain ⟨rfl, hcut⟩ := hcut
        have Hbi := Lib.hid hcut
        have Hati2 := Lib.hid (Hati.out.up hcut)
        have Hbe := Lib.hid (Hbel.out.trans (hcut.mono hz))
        clear hcut
        have p1 := Hati2.out.c1
        have p3 := Hati2.out.c3
        go_wp2_with fail
        go_loopg [19, 20] si.mends.length (fun gj s19 s20 wj => ∃ j : Nat, j ≤ si.mends.length ∧ gj = si.mends.length - j ∧ s19 = .int .i64 (j : Int) ∧ Below wi.heap.size wi wj)
        case atStart => exact ⟨0, Nat.zero_le _, rfl, rfl, Below.refl _ _⟩
        case round =>
          rename World => wj
          obtain ⟨j, hj, rfl, rfl, hbj⟩ := hrel
          have Hbj := Lib.hid hbj
          have hatj := Hati2.out.up hbj
          have hml : si.mends.length ≤ 9223372036854775807 := by
            obtain ⟨_, _, _, hm', _, _⟩ := hatj.md.cases_
            exact hm'
          have p1' := hatj.c1
          have p3' := hatj.c3
          have j0 : (0 : Int) ≤ (j : Int) := Int.natCast_nonneg _
          have HLj := Lib.hid (((HL7.out.up Hbe.out Hbe.out.size)).up hbj hbj.size)
          have HMj := Lib.hid ((HMa.out.up Hbe.out Hbe.out.size).up hbj hbj.size)
          clear hbj p1 p3
          by_cases hjl : j < si.mends.length
          · obtain ⟨b7, o7, m, hA7, hb7, e7, _, p8⟩ := hatj.md.mend_at hjl
            subst hA7
            have j1 : (j : Int) < (si.mends.length : Int) := by omega
            have hmm : m ∈ mendsO (segO (objOf raw 6 true) i (i + 1)) := by rw [Hati.out.ms]; exact List.mem_of_getElem? e7
            have Hcl : Hid (qa = true → ∀ t : Nat, ownerL l m.name = (t : Int) → (t : Int) ∈ idxsM Sa) := Lib.hid fun hq t ht => by
              rw [mem_idxsM]
              exact Hg5.out.closed i _ (Hmem.out.1 (of_decide_eq_true (Hqa.out.symm.trans hq))) Hati.out.at_ m hmm t ht
            clear e7 hmm hatj
            go_wp2_with fail
            refine Owner_calls l _ m.name _ HLj.out _ (fun x1 hx1 => ?_)
            have HMx := Lib.hid (HMj.out.up hx1 hx1.size)
            have Hx1 := Lib.hid (Hbj.out.trans (hx1.mono Hbj.out.size))
            have hoc := owner_cases l m.name
            clear hx1 p1' p3' p8
            generalize ownerL l m.name = r at *
            go_wp2_with fail
            refine hasInt_calls (idxsM Sa) (i : Int) _ _ HMx.out _ (fun x2 hx2 => ?_)
            rw [← Hqa.out]
            have HMy := Lib.hid (HMx.out.up hx2 hx2.size)
            have Hx2 := Lib.hid (Hx1.out.trans (hx2.mono Hx1.out.size))
            clear hx2
            cases qa with
            | false =>
              go_wp2
              go_roundg (si.mends.length - (j + 1))
              case measure => omega
              case rel => exact ⟨j + 1, hjl, rfl, by go_num, Hx2.out⟩
            | true =>
              rcases hoc with hneg | ⟨t, ht, _⟩
              · have hr0 : ¬ (0 : Int) ≤ r := by omega
                have hr1 : decide ((0 : Int) ≤ r) = false := decide_eq_false hr0
                go_wp2
                go_roundg (si.mends.length - (j + 1))
                case measure => omega
                case rel => exact ⟨j + 1, hjl, rfl, by go_num, Hx2.out⟩
              · have hmt := Hcl.out rfl t ht
                subst ht
                have t0 : (0 : Int) ≤ (t : Int) := Int.natCast_nonneg _
                have Hmt := Lib.hid (decide_eq_true hmt)
                clear hmt
                go_wp2_with fail
                refine hasInt_calls (idxsM Sa) (t : Int) _ _ HMy.out _ (fun x3 hx3 => ?_)
                rw [Hmt.out]
                have Hx3 := Lib.hid (Hx2.out.trans (hx3.mono Hx2.out.size))
                clear hx3
                go_wp2
                go_roundg (si.mends.length - (j + 1))
                case measure => omega
                case rel => exact ⟨j + 1, hjl, rfl, by go_num, Hx3.out⟩
          · obtain rfl : j = si.mends.length := by omega
            have j1 : ¬ (si.mends.length : Int) < (si.mends.length : Int) := by omega
            have Hnx := Lib.hid (Hbe.out.trans (Hbj.out.mono Hbe.out.size))
            clear hatj
            go_wp2
            go_roundg (l.length - (i + 1))
            case measure => omega
            case rel => exact ⟨i + 1, hil, rfl, by go_num, Hnx.out⟩
    · obtain rfl : i = l.length := by omega
      have i1 : ¬ (l.length : Int) < (l.length : Int) := by omega
      have hmem : (ka : Int) ∈ idxsM Sa := mem_idxsM.2 (Hg5.out.has ka (by simp))
      have Hmem := Lib.hid (decide_eq_true hmem)
      clear hmem
      go_wp2_with fail
      refine Picked_calls a (l.length : Int) hpos (by omega) ha _ _ ?_
      rw [Hka.out]
      go_wp2_with fail
      refine hasInt_calls (idxsM Sa) (ka : Int) _ _ (HMa.out.up Hbel.out Hbel.out.size) _ (fun x1 hx1 => ?_)
      rw [Hmem.out]
      have Hfin := Lib.hid (Hall.out _ (Hbel.out.trans (hx1.mono hz)))
      clear hx1
      go_wp2
      exact Hfin.out
end Go.Proofs.YtfhnmbnniklmiaaDoor
