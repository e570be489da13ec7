/- bundle.need: what one object needs is marked. bundle.Need: the objects that names need. (printed by genneed2.py) -/
import Derived.Test.YtcakodemngchpaaGreatDoorBase
import Derived.Test.YtcakodemngchpaaGreatDoorRows
import Derived.IntWalk
import Derived.Deep.LoopGhost
import Derived.Deep.CutBlock
import Derived.Deep.DeepCutAuto
import Derived.Outline
import Derived.Test.YtcakodemngchpaaGreatDoorBunE
import Derived.Test.YtcakodemngchpaaGreatDoorLawA
import Derived.Test.YtcakodemngchpaaGreatDoorLinkA
import Derived.Laws.MakeOwn
/- bundle.need: what one object needs is marked. -/
namespace Go.Proofs.YtcakodemngchpaaGreatDoor
open Go.RowKit
set_option linter.unusedSimpArgs false
set_option linter.unusedVariables false

theorem bools_cell {w : World} {g : Nat} {S : List Bool} {T : TypeId} (h : w.heap[g]? = some (.cells (S.map Value.bool).toArray T (0, 0))) {k : Nat} {b : Bool} (hk : S[k]? = some b) : w.cell? ⟨g, k, none⟩ = some (.bool b) ∧ w.frozen? ⟨g, k, none⟩ = false := by
  constructor
  · simp [World.cell?, h, hk]
  · simp [World.frozen?, h]
theorem bools_set {w : World} {g : Nat} {S : List Bool} {T : TypeId} (h : w.heap[g]? = some (.cells (S.map Value.bool).toArray T (0, 0))) (k : Nat) : (w.setCell ⟨g, k, none⟩ (.bool true)).heap[g]? = some (.cells ((S.set k true).map Value.bool).toArray T (0, 0)) := by
  rw [block_set h]
  simp [List.map_set]
theorem owner_cases (l : List Object) (nm : ByteArray) : ownerL l nm < 0 ∨ ∃ k : Nat, ownerL l nm = (k : Int) ∧ k < l.length := by
  rcases Int.lt_or_le (ownerL l nm) 0 with h | h
  · exact .inl h
  · obtain ⟨k, hk⟩ : ∃ k : Nat, ownerL l nm = (k : Int) := ⟨(ownerL l nm).toNat, by omega⟩
    exact .inr ⟨k, hk, owner_there hk⟩
theorem sl_grew {α : Type} {r : Rp α} {w w' : World} {g : Nat} {xs : List α} {v : Value} (h : r.SL w g xs v) (hl : g < w.heap.size) (hg : Grew (fun b => b = g) w w') : r.SL w' g xs v := h.keep fun q hq => World.cell?_of_block (hg.block _ (by omega) (by omega))

set_option maxRecDepth 100000 in
set_option maxHeartbeats 8000000 in
theorem need_calls : ∀ (f : Nat) (l : List Object) (i : Int) (S : List Bool) (g : Nat) (vl : Value) (w : World) (R : Ending → World → Prop), leftM S < f → rpObject.SL w g l vl →
    w.heap[g]? = some (.cells (S.map Value.bool).toArray 4 (0, 0)) → S.length = l.length → l.length ≤ 12 → (i < 0 ∨ ∃ k : Nat, i = (k : Int) ∧ k < l.length) →
    (∀ w' S', Grew (fun b => b = g) w w' → w'.heap[g]? = some (.cells (S'.map Value.bool).toArray 4 (0, 0)) → NeedM l S i S' → R (.returned (.tuple #[])) w') →
    Calls Tryz.prog 19 #[vl, .int .i64 i, .slice (some ⟨g, 0, none⟩) l.length l.length] w R
  | 0, _, _, _, _, _, _, _, hf, _, _, _, _, _, _ => absurd hf (Nat.not_lt_zero _)
  | f + 1, l, i, S, g, vl, w, R, hf, h, hin, hSl, hn, hi, hR => by
    have hgl := blk_lt hin
    obtain ⟨A, c, rfl, hm, hcap, h⟩ := h.cases_
    have HR := Lib.hid hR
    have H := Lib.hid h
    have Hin := Lib.hid hin
    rcases hi with hneg | ⟨k, rfl, hk⟩
    · have hfin := Lib.hid (HR.out w S (Grew.refl _ _) Hin.out (NeedM.none (.inl hneg)))
      clear hR h hin
      go_enter Tryz.func19, Tryz.ntmps19
      go_wp2
      go_end0
      exact hfin.out
    have i0 : (0 : Int) ≤ (k : Int) := Int.natCast_nonneg _
    have i1 : (k : Int) < (l.length : Int) := by omega
    have i2 : ¬ (k : Int) < 0 := by omega
    have i2' : decide ((k : Int) < 0) = false := decide_eq_false i2
    have hkS : k < S.length := by omega
    obtain ⟨b0, hb0⟩ : ∃ b0, S[k]? = some b0 := ⟨_, List.getElem?_eq_getElem hkS⟩
    obtain ⟨cc, zz⟩ := bools_cell hin hb0
    cases b0 with
    | true =>
      have hfin := Lib.hid (HR.out w S (Grew.refl _ _) Hin.out (NeedM.none (.inr ⟨k, rfl, hb0⟩)))
      clear hR h hin hb0
      go_enter Tryz.func19, Tryz.ntmps19
      go_wp2
      go_end0
      exact hfin.out
    | false =>
      obtain ⟨b, off, o, v1, v2, rfl, hb, e, h1, h2, r0, r1⟩ := h.object_at hk
      obtain ⟨A2, c2, rfl, _, _, h2⟩ := h2.cases_
      obtain ⟨W1, hW1⟩ : ∃ W1, W1 = w.setCell ⟨g, k, none⟩ (.bool true) := ⟨_, rfl⟩
      obtain ⟨S1, hS1⟩ : ∃ S1, S1 = S.set k true := ⟨_, rfl⟩
      have hin1 : W1.heap[g]? = some (.cells (S1.map Value.bool).toArray 4 (0, 0)) := by subst hW1 hS1; exact bools_set hin k
      have hg1 : Grew (fun b => b = g) w W1 := by subst hW1; exact (Grew.refl (fun b => b = g) w).setCell ⟨g, k, none⟩ (.inl rfl) _
      have hne : S[k]? ≠ some true := by rw [hb0]; simp
      have hlt1 : leftM S1 < f := by
        have := leftM_lt (S := S) (T := S1) (by rw [hS1, List.length_set]) (by rw [hS1]; exact sub_set hkS) k (by rw [hS1]; exact set_at hkS) hne
        omega
      have HL : Hid (∀ W, Grew (fun b => b = g) w W → rpObject.SL W g l (.slice (some ⟨b, off, none⟩) l.length c)) := Lib.hid fun W hW => sl_grew h hgl hW
      have HSec : Hid (∀ W, Grew (fun b => b = g) w W → rpSection.SL W g o.sections (.slice A2 o.sections.length c2)) := Lib.hid fun W hW => sl_grew h2 hgl hW
      have Hdone : Hid (∀ W S', Grew (fun b => b = g) w W → W.heap[g]? = some (.cells (S'.map Value.bool).toArray 4 (0, 0)) → MidN l S1 (mendsO o) S' → R (.returned (.tuple #[])) W) := Lib.hid fun W S' hW hin' hm => HR.out W S' hW hin' (MidN.need hkS hne e (by rw [← hS1]; exact hm))
      have hS1l : S1.length = l.length := by rw [hS1, List.length_set, hSl]
      have p1 : W1.cell? ⟨b, off + k * 2 + 1, none⟩ = some (.slice A2 o.sections.length c2) := (World.cell?_of_block (hg1.block b (by omega) (by omega))).trans r1
      have HW1 := Lib.hid hW1.symm
      have Hin1 := Lib.hid hin1
      have Hg1 := Lib.hid hg1
      clear hR h hin hb0 hW1 hS1 hin1 hg1 hne r0 r1 e h1 h2 HR Hin H
      go_enter Tryz.func19, Tryz.ntmps19
      go_upto_region 2 with fail
      rw [HW1.out]
      clear cc zz
      go_wp2_with fail
      go_loopg [7, 9, 27, 34] o.sections.length (fun gh s7 s9 s27 s34 wr => ∃ (j : Nat) (S' : List Bool), j ≤ o.sections.length ∧ gh = o.sections.length - j ∧ s27 = .int .i64 (j : Int) ∧ MidN l S1 ((o.sections.take j).flatMap (·.mends)) S' ∧ wr.heap[g]? = some (.cells (S'.map Value.bool).toArray 4 (0, 0)) ∧ Grew (fun b => b = g) w wr)
      case atStart => exact ⟨0, S1, Nat.zero_le _, rfl, rfl, MidN.begin l S1, Hin1.out, Hg1.out⟩
      case round =>
        obtain ⟨j, S', hj, rfl, rfl, hmid, hinr, hgr⟩ := hrel
        have Hmid := Lib.hid hmid
        have Hinr := Lib.hid hinr
        have Hgr := Lib.hid hgr
        have j1 : (0 : Int) ≤ (j : Int) := Int.natCast_nonneg _
        have hglr := blk_lt hinr
        clear hmid hinr hgr
        by_cases hjl : j < o.sections.length
        · obtain ⟨b5, o5, s, v5, v6, rfl, hb5, e5, h5, h6, q0, q1, q2⟩ := (HSec.out _ Hgr.out).section_at hjl
          obtain ⟨A5, n5, rfl, _, _, _⟩ := h5.cases_
          obtain ⟨A6, n6, rfl, _, _, h6⟩ := h6.cases_
          have j2 : (j : Int) < (o.sections.length : Int) := by omega
          obtain ⟨W4, hW4⟩ : ∃ W4, W4 = wr.alloc (Obj.cells #[.string s.name, .slice A5 s.code.length n5, .slice A6 s.mends.length n6] 58) := ⟨_, rfl⟩
          have hb4 : Below wr.heap.size wr W4 := by subst hW4; exact bl0
          have hV4 : W4.heap[wr.heap.size]? = some (.cells #[.string s.name, .slice A5 s.code.length n5, .slice A6 s.mends.length n6] 58 (0, 0)) := by subst hW4; exact heap_alloc_new _ _
          obtain ⟨y0, y1, y2, _, _, _⟩ := three_cellsL hV4
          have hlV4 := blk_lt hV4
          have Hgr4 := Lib.hid (Hgr.out.on hb4)
          have Hin4 := Lib.hid ((hb4.block _ hglr).trans Hinr.out)
          have HMd : Hid (∀ W, Grew (fun b => b = g) wr W → rpMend.SL W g s.mends (.slice A6 s.mends.length n6)) := Lib.hid fun W hW => sl_grew h6 hglr hW
          have Hg04 := Lib.hid ((Grew.refl (fun b => b = g) wr).on hb4)
          have HW4 := Lib.hid hW4.symm
          have E5 := Lib.hid e5
          have hpre : Hid ((o.sections.take (j + 1)).flatMap (·.mends) = (o.sections.take j).flatMap (·.mends) ++ s.mends) := Lib.hid (by
            obtain ⟨hj5, e6⟩ := List.getElem?_eq_some_iff.1 e5
            rw [List.take_succ_eq_append_getElem hj5, List.flatMap_append, e6]
            simp)
          generalize (o.sections.take j).flatMap (·.mends) = pre at *
          clear e5 hW4 hb4 hV4 h5 h6
          go_upto_region 5 with fail
          rw [HW4.out]
          clear q0 q1 q2
          go_wp2_with fail
          go_loopg [9, 34] s.mends.length (fun gi s9 s34 wi => ∃ (t : Nat) (S'' : List Bool), t ≤ s.mends.length ∧ gi = s.mends.length - t ∧ s34 = .int .i64 (t : Int) ∧ MidN l S1 (pre ++ s.mends.take t) S'' ∧ wi.heap[g]? = some (.cells (S''.map Value.bool).toArray 4 (0, 0)) ∧ Grew (fun b => b = g) w wi ∧ Grew (fun b => b = g) wr wi)
          case atStart => exact ⟨0, S', Nat.zero_le _, rfl, rfl, by rw [List.take_zero, List.append_nil]; exact Hmid.out, Hin4.out, Hgr4.out, Hg04.out⟩
          case round =>
            rename World => wi
            obtain ⟨t, S'', ht, rfl, rfl, hmid, hini, hgri, hgwi⟩ := hrel
            have Hmid2 := Lib.hid hmid
            have Hini := Lib.hid hini
            have Hgri := Lib.hid hgri
            have Hgwi := Lib.hid hgwi
            have t0 : (0 : Int) ≤ (t : Int) := Int.natCast_nonneg _
            have hgli := blk_lt hini
            clear hmid hini hgri hgwi
            by_cases htl : t < s.mends.length
            · obtain ⟨b7, o7, m, rfl, hb7, e7, p7, p8⟩ := (HMd.out _ Hgwi.out).mend_at htl
              have t1 : (t : Int) < (s.mends.length : Int) := by omega
              obtain ⟨W8, hW8⟩ : ∃ W8, W8 = wi.alloc (Obj.cells #[.int .i64 m.at_, .string m.name] 84) := ⟨_, rfl⟩
              have hb8 : Below wi.heap.size wi W8 := by subst hW8; exact bl0
              have hV8 : W8.heap[wi.heap.size]? = some (.cells #[.int .i64 m.at_, .string m.name] 84 (0, 0)) := by subst hW8; exact heap_alloc_new _ _
              obtain ⟨x0, x1⟩ := cells_blk hV8
              have hlV8 := blk_lt hV8
              have Hgr8 := Lib.hid (Hgri.out.on hb8)
              have Hgw8 := Lib.hid (Hgwi.out.on hb8)
              have Hin8 := Lib.hid ((hb8.block _ hgli).trans Hini.out)
              have hgl8 : g < W8.heap.size := Nat.lt_of_lt_of_le hgli hb8.size
              have hsl8 := (HL.out _ Hgr8.out).more (Nat.le_of_lt hgl8)
              have Hsl8 := Lib.hid hsl8
              have hpre2 : Hid (pre ++ s.mends.take (t + 1) = (pre ++ s.mends.take t) ++ [m]) := Lib.hid (by
                obtain ⟨ht7, e8⟩ := List.getElem?_eq_some_iff.1 e7
                rw [List.take_succ_eq_append_getElem ht7, e8, List.append_assoc])
              have HW8 := Lib.hid hW8.symm
              clear e7 hW8 hb8 hV8 hsl8
              go_upto_region 8 with fail
              rw [HW8.out]
              clear p7 p8
              go_wp2_with fail
              refine bunHas_calls l _ m.name _ Hsl8.out _ (fun w9 hb9 => ?_)
              have hgl9 : g < w9.heap.size := Nat.lt_of_lt_of_le hgl8 hb9.size
              have Hgr9 := Lib.hid (Hgr8.out.on hb9)
              have Hgw9 := Lib.hid (Hgw8.out.on hb9)
              have Hin9 := Lib.hid ((hb9.block _ hgl8).trans Hin8.out)
              have hl9 : leftM S'' < f := by
                have h1 := Hmid2.out
                have := leftM_le (S := S1) (T := S'') h1.len.symm h1.sub
                omega
              have hS9 : S''.length = l.length := Hmid2.out.len.trans hS1l
              clear hb9 x0 x1
              go_wp2_with fail
              refine need_calls f l (ownerL l m.name) S'' g _ _ _ hl9 (HL.out _ Hgr9.out) Hin9.out hS9 hn (owner_cases l m.name) (fun w10 T hg10 hin10 hneed => ?_)
              have Hgr10 := Lib.hid (Hgr9.out.trans hg10 (fun j _ e => e))
              have Hgw10 := Lib.hid (Hgw9.out.trans hg10 (fun j _ e => e))
              have Hin10 := Lib.hid hin10
              have Hmid10 : Hid (MidN l S1 (pre ++ s.mends.take (t + 1)) T) := Lib.hid (by rw [hpre2.out]; exact Hmid2.out.step hneed)
              clear hg10 hin10 hneed
              go_wp2
              go_roundg (s.mends.length - (t + 1))
              case measure => omega
              case rel => exact ⟨t + 1, T, htl, rfl, by go_num, Hmid10.out, Hin10.out, Hgr10.out, Hgw10.out⟩
            · obtain rfl : t = s.mends.length := by omega
              rw [List.take_length, ← hpre.out] at Hmid2
              have t1 : ¬ (s.mends.length : Int) < (s.mends.length : Int) := by omega
              go_wp2
              go_roundg (o.sections.length - (j + 1))
              case measure => omega
              case rel => exact ⟨j + 1, S'', hjl, rfl, by go_num, Hmid2.out, Hini.out, Hgri.out⟩
        · obtain rfl : j = o.sections.length := by omega
          rw [List.take_length] at Hmid
          have j2 : ¬ (o.sections.length : Int) < (o.sections.length : Int) := by omega
          have hfin := Lib.hid (Hdone.out wr S' Hgr.out Hinr.out Hmid.out)
          go_wp2
          go_end0
          exact hfin.out
end Go.Proofs.YtcakodemngchpaaGreatDoor

/- bundle.Need: the objects that names need. (printed by genneed2.py) -/
namespace Go.Proofs.YtcakodemngchpaaGreatDoor
open Go.RowKit
set_option linter.unusedSimpArgs false
set_option linter.unusedVariables false

theorem info_bool : (Tryz.prog.info? 4).map (fun i => (i.zero, i.size, i.bytes)) = some (some (.bool false), 1, 1) := by kernel_rfl
theorem info_int_ : (Tryz.prog.info? 3).map (fun i => (i.zero, i.size, i.bytes)) = some (some (.int .i64 0), 1, 8) := by kernel_rfl
theorem make_bools (W : World) (n : Nat) (hn : n ≤ 100) : (Instr.makeSlice 63 (.int .i64 (n : Int)) (.int .i64 (n : Int))).run Tryz.prog W = .ok (.slice (some ⟨W.heap.size, 0, none⟩) n n) (W.alloc (.cells ((List.replicate n false).map Value.bool).toArray 4)) := by
  obtain ⟨iB, hi, z0, z1, z2⟩ := info_parts info_bool
  have h := run_make (P := Tryz.prog) W 63 4 iB _ Tryz.underlying63 hi z0 .i64 .i64 (n : Int) (n : Int) (by omega) (Int.le_refl _) (by rw [z2]; omega) (by omega)
  rw [z1] at h
  simp only [Int.toNat_natCast, Nat.mul_one] at h
  have e : madeCells (Value.bool false).cells n = ((List.replicate n false).map Value.bool).toArray := by
    unfold madeCells
    apply Array.ext
    · simp
    · intro i h1 h2
      simp [Value.cells, Nat.mod_one]
  rw [e] at h
  exact h
theorem open_few {bs : List UInt8} (h : (openF bs).1 = 0) : (openO bs).length ≤ 12 := by
  unfold openF at h
  split at h
  · simp at h
  · split at h
    · rename_i h1 h2
      obtain ⟨l, hl⟩ := Option.isSome_iff_exists.1 h2
      rw [(openF_some hl).2]
      exact (openL_ok hl).1.few
    · simp at h

def badN (l : List Object) (names : List ByteArray) : Option Nat := names.findIdx? fun nm => decide (ownerL l nm < 0)
def needF (bs : List UInt8) (names : List ByteArray) : Int × Int := if (openF bs).1 ≠ 0 then openF bs else if 40 < names.length then (2, 0) else match badN (openO bs) names with
  | some i => (6, (i : Int))
  | none => (0, 0)
def needKs (l : List Object) (names : List ByteArray) : List Nat := names.map fun nm => (ownerL l nm).toNat
def NeedsM (bs : List UInt8) (names : List ByteArray) (xs : List Int) : Prop := if (needF bs names).1 ≠ 0 then xs = [] else ∃ S, GotM (openO bs) (needKs (openO bs) names) S ∧ xs = idxsM S
theorem need_bad0 {bs : List UInt8} {names : List ByteArray} (h : (openF bs).1 ≠ 0) : needF bs names = openF bs ∧ NeedsM bs names [] := by
  have e : needF bs names = openF bs := by unfold needF; rw [if_pos h]
  refine ⟨e, ?_⟩
  unfold NeedsM
  rw [e, if_pos h]
theorem need_bad1 {bs : List UInt8} {names : List ByteArray} (h : (openF bs).1 = 0) (hn : 40 < names.length) : needF bs names = (2, 0) ∧ NeedsM bs names [] := by
  have e : needF bs names = (2, 0) := by unfold needF; rw [if_neg (by simp [h]), if_pos hn]
  refine ⟨e, ?_⟩
  unfold NeedsM
  rw [e, if_pos (by simp)]
theorem need_bad2 {bs : List UInt8} {names : List ByteArray} {k : Nat} {nm : ByteArray} (h : (openF bs).1 = 0) (hn : ¬ 40 < names.length) (hk : names[k]? = some nm) (ho : ownerL (openO bs) nm < 0) (hpre : ∀ (j : Nat) x, j < k → names[j]? = some x → ¬ ownerL (openO bs) x < 0) : needF bs names = (6, (k : Int)) ∧ NeedsM bs names [] := by
  have hb : badN (openO bs) names = some k := by
    obtain ⟨hl, e⟩ := List.getElem?_eq_some_iff.1 hk
    unfold badN
    rw [List.findIdx?_eq_some_iff_getElem]
    exact ⟨hl, by rw [e]; simpa using ho, fun j hj => by simpa using hpre j _ hj (List.getElem?_eq_getElem (by omega))⟩
  have e : needF bs names = (6, (k : Int)) := by unfold needF; rw [if_neg (by simp [h]), if_neg hn, hb]
  refine ⟨e, ?_⟩
  unfold NeedsM
  rw [e, if_pos (by simp)]
theorem need_good {bs : List UInt8} {names : List ByteArray} (h : (openF bs).1 = 0) (hn : ¬ 40 < names.length) (hpre : ∀ (j : Nat) x, names[j]? = some x → ¬ ownerL (openO bs) x < 0) {S : List Bool} (hS : GotM (openO bs) (needKs (openO bs) names) S) : needF bs names = (0, 0) ∧ NeedsM bs names (idxsM S) := by
  have hb : badN (openO bs) names = none := by
    unfold badN
    rw [List.findIdx?_eq_none_iff]
    intro x hx
    obtain ⟨j, hj, e⟩ := List.mem_iff_getElem.1 hx
    have := hpre j x (by rw [List.getElem?_eq_getElem hj, e])
    simpa using this
  have e : needF bs names = (0, 0) := by unfold needF; rw [if_neg (by simp [h]), if_neg hn, hb]
  refine ⟨e, ?_⟩
  unfold NeedsM
  rw [e, if_neg (by simp)]
  exact ⟨S, hS, rfl⟩
theorem needKs_step (l : List Object) {names : List ByteArray} {k : Nat} {nm : ByteArray} (h : names[k]? = some nm) : needKs l (names.take (k + 1)) = needKs l (names.take k) ++ [(ownerL l nm).toNat] := by
  obtain ⟨hk, e⟩ := List.getElem?_eq_some_iff.1 h
  unfold needKs
  rw [List.take_succ_eq_append_getElem hk, e, List.map_append]
  rfl
theorem opened_few {bs : List UInt8} (h : openF bs = (0, 0)) : (openO bs).length ≤ 12 := open_few (by rw [h])

set_option maxRecDepth 100000 in
set_option maxHeartbeats 8000000 in
theorem Need_calls (v vn : Value) (bs : List UInt8) (names : List ByteArray) (w : World) (h : rpByte.SL w w.heap.size bs v) (hnm : rpStr.SL w w.heap.size names vn) (hS : Shapes w) (R : Ending → World → Prop)
    (hR : ∀ w' v' xs, Below w.heap.size w w' → NeedsM bs names xs → rpInt.SL w' w'.heap.size xs v' → R (.returned (.tuple #[v', (.agg #[.int .i64 (needF bs names).1, .int .i64 (needF bs names).2])])) w') :
    Calls Tryz.prog 8 #[v, vn] w R := by
  have h0 := hS.1
  have HSh := Lib.hid hS
  clear hS
  obtain ⟨iI, hiI, zI0, zI1, zI2⟩ := info_parts info_int_
  obtain ⟨A, c, rfl, hm, hcap, h⟩ := h.cases_
  obtain ⟨An, cn, rfl, hmn, hcapn, hnm⟩ := hnm.cases_
  have HR := Lib.hid hR
  have H := Lib.hid h
  have HN := Lib.hid hnm
  obtain ⟨W0, hW0⟩ : ∃ W0, W0 = w.alloc (Obj.cells #[.int .i64 0, .int .i64 0] 27) := ⟨_, rfl⟩
  have hb0 : Below w.heap.size w W0 := by subst hW0; exact bl0
  have hz0 : W0.heap.size = w.heap.size + 1 := by subst hW0; simp
  have hQ : W0.heap[w.heap.size]? = some (.cells #[.int .i64 0, .int .i64 0] 27 (0, 0)) := by subst hW0; exact heap_alloc_new _ _
  have HW := Lib.hid hW0.symm
  have Hb0 := Lib.hid hb0
  have HK : Hid (∀ W, Below W0.heap.size W0 W → W.heap[w.heap.size]? = some (.cells #[.int .i64 0, .int .i64 0] 27 (0, 0)) ∧ w.heap.size < W.heap.size ∧ Below w.heap.size w W) := Lib.hid fun W h =>
    ⟨(h.block _ (by omega)).trans hQ, by have := h.size; omega, hb0.trans (h.mono (by omega))⟩
  have Hz0 := Lib.hid hz0
  have hl0 : w.heap.size < W0.heap.size := by omega
  clear hR h hnm hW0 hb0 hQ hz0
  go_enter Tryz.func8, Tryz.ntmps8
  go_wp2_with fail
  rw [HW.out]
  refine Open_calls _ bs _ (H.out.up Hb0.out Hb0.out.size) (HSh.out.up Hb0.out h0) _ (fun w1 v1 hb1 hsl => ?_)
  obtain ⟨A1, c1, rfl, _, _, hsl⟩ := hsl.cases_
  obtain ⟨⟨fc, fa⟩, hF⟩ : ∃ F, F = openF bs := ⟨_, rfl⟩
  have HF := Lib.hid hF
  rw [← hF]
  simp only []
  obtain ⟨W5, hW5⟩ : ∃ W5, W5 = w1.alloc (Obj.cells #[.int .i64 fc, .int .i64 fa] 27) := ⟨_, rfl⟩
  have hV5 : W5.heap[w1.heap.size]? = some (.cells #[.int .i64 fc, .int .i64 fa] 27 (0, 0)) := by subst hW5; exact heap_alloc_new _ _
  have hb15 : Below w1.heap.size w1 W5 := by subst hW5; exact bl0
  have hb5 : Below W0.heap.size W0 W5 := hb1.trans (hb15.mono hb1.size)
  obtain ⟨k1, k2, k3⟩ := HK.out _ hb5
  obtain ⟨f0, f1, _, _⟩ := cells_of_block hV5
  have hl5 := blk_lt hV5
  obtain ⟨d0, d1, y0, y1⟩ := cells_of_block k1
  have hz1 := hb1.size
  have hq1 : w.heap.size < w1.heap.size := by omega
  have Hsl5 := Lib.hid (hsl.SL.up hb15 hb15.size)
  have Hb5 := Lib.hid hb5
  have HF5 := Lib.hid k1
  have Hk5 := Lib.hid k3
  have HW5 := Lib.hid hW5.symm
  have hzz5 := hb5.size
  clear hF hb1 hsl hV5 hb15 hb5 k1 k3 hW5
  go_upto_region 2 with fail
  rw [HW5.out]
  by_cases hc : fc = 0
  rotate_left
  · have hq : ∀ w, (binOp .neq 27 (.agg #[.int .i64 fc, .int .i64 fa]) (.agg #[.int .i64 0, .int .i64 0])).run Tryz.prog w = .ok (.bool true) w := fun w => by
      rw [neq_Fault]
      simp [hc]
    have hnb := need_bad0 (bs := bs) (names := names) (by rw [← HF.out]; exact hc)
    have hret := HR.out
    rw [hnb.1, ← HF.out] at hret
    have Hret := Lib.hid (fun w' v' hb hs => hret w' v' [] hb hnb.2 hs)
    clear hc hret hnb
    go_wp2
    go_region
    all_goals
      go_wp2
      refine bodyPost_ret (v := .tuple #[.slice none 0 0, .agg #[.int .i64 fc, .int .i64 fa]]) (res_slF (by rfl) (by rfl) (by rfl) (blkp HF5.out)) rfl ?_
      have hb := Hk5.out
      refine Hret.out _ _ ?_ (Rp.SL.nil _ _ _)
      exact bl0
  have hz00 := openF_zero (b := bs) (by rw [← HF.out]; exact hc)
  have hca := HF.out.trans hz00
  simp only [Prod.mk.injEq] at hca
  obtain ⟨rfl, rfl⟩ := hca
  have hq : ∀ w, (binOp .neq 27 (.agg #[.int .i64 0, .int .i64 0]) (.agg #[.int .i64 0, .int .i64 0])).run Tryz.prog w = .ok (.bool false) w := fun w => neq_Fault 0 0 0 0 w
  have hl12 := opened_few hz00
  have hz01 : (openF bs).1 = 0 := by rw [hz00]
  have Hz01 := Lib.hid hz01
  obtain ⟨l, hll⟩ : ∃ l, l = openO bs := ⟨_, rfl⟩
  rw [← hll] at hl12 Hsl5 ⊢
  have Hll := Lib.hid hll.symm
  clear hll
  clear hc hz00
  by_cases hmany : 40 < names.length
  · have hnb := need_bad1 (bs := bs) (names := names) hz01 hmany
    have hret := HR.out
    rw [hnb.1] at hret
    have Hret := Lib.hid (fun w' v' hb hs => hret w' v' [] hb hnb.2 hs)
    have hmi : (40 : Int) < (names.length : Int) := by omega
    clear hret hnb hz01 hmany
    go_wp2_with fail
    refine Fault_calls _ _ _ _ (fun w7 hb7 => ?_)
    obtain ⟨k1, k4, k3⟩ := HK.out _ (Hb5.out.trans (hb7.mono Hb5.out.size))
    have HF7 := Lib.hid k1
    have Hk7 := Lib.hid k3
    clear d0 d1 y0 y1 f0 f1
    obtain ⟨d0, d1, y0, y1⟩ := cells_of_block k1
    clear hb7 k1 k3
    go_wp2
    refine bodyPost_ret (v := .tuple #[.slice none 0 0, .agg #[.int .i64 2, .int .i64 0]]) (res_slF (by rfl) (by rfl) (by rfl) (blkp HF7.out)) rfl ?_
    have hb := Hk7.out
    refine Hret.out _ _ ?_ (Rp.SL.nil _ _ _)
    exact bl0
  have hmi : ¬ (40 : Int) < (names.length : Int) := by omega
  have Hmany := Lib.hid hmany
  obtain ⟨W6, hW6⟩ : ∃ W6, W6 = W5.alloc (.cells ((List.replicate l.length false).map Value.bool).toArray 4) := ⟨_, rfl⟩
  have hmk : (Instr.makeSlice 63 (.int .i64 (l.length : Int)) (.int .i64 (l.length : Int))).run Tryz.prog W5 = .ok (.slice (some ⟨W5.heap.size, 0, none⟩) l.length l.length) W6 := by rw [hW6]; exact make_bools W5 l.length (by omega)
  have hb6 : Below W5.heap.size W5 W6 := by subst hW6; exact bl0
  have hin6 : W6.heap[W5.heap.size]? = some (.cells ((List.replicate l.length false).map Value.bool).toArray 4 (0, 0)) := by subst hW6; exact heap_alloc_new _ _
  have HB : Hid (∀ W, Grew (fun b => b = W5.heap.size) W6 W → Below W0.heap.size W0 W) := Lib.hid fun W hW => Hb5.out.trans ((hb6.mono Hb5.out.size).trans (hW.below (fun k hk e => by omega) (by have := hb6.size; omega)))
  have HL6 : Hid (∀ W, Grew (fun b => b = W5.heap.size) W6 W → rpObject.SL W W5.heap.size l (.slice A1 l.length c1)) := Lib.hid fun W hW => sl_grew (by
    have := Hsl5.out.keep (w' := W6) (fun q hq => hb6.cell hq)
    exact this) (blk_lt hin6) hW
  have hN6 : Hid (∀ W, Grew (fun b => b = W5.heap.size) W6 W → rpStr.SL W W.heap.size names (.slice An names.length cn)) := Lib.hid fun W hW => by
    obtain ⟨_, _, hb⟩ := HK.out W (HB.out W hW)
    exact HN.out.up hb hb.size
  have Hin6 := Lib.hid hin6
  clear hb6 hin6 hW6 d0 d1 y0 y1 hmany hz01 HF5 Hk5
  go_wp2_with fail
  clear f0 f1 hmk
  go_wp2_with fail
  go_loopg [9, 10, 11, 35] names.length (fun gh s9 s10 s11 s35 wr => ∃ (k : Nat) (S : List Bool), k ≤ names.length ∧ gh = names.length - k ∧ s35 = .int .i64 (k : Int) ∧ GotM l (needKs l (names.take k)) S ∧ wr.heap[W5.heap.size]? = some (.cells (S.map Value.bool).toArray 4 (0, 0)) ∧ Grew (fun b => b = W5.heap.size) W6 wr ∧ (∀ (j : Nat) x, j < k → names[j]? = some x → 0 ≤ ownerL l x))
  case atStart => exact ⟨0, _, Nat.zero_le _, rfl, rfl, GotM.start l, Hin6.out, Grew.refl _ _, fun j x h => absurd h (Nat.not_lt_zero _)⟩
  case round =>
    obtain ⟨k, S, hk, rfl, rfl, hgot, hin, hgr, hpre⟩ := hrel
    have Hgot := Lib.hid hgot
    have Hin := Lib.hid hin
    have Hgr := Lib.hid hgr
    have Hpre := Lib.hid hpre
    have k0 : (0 : Int) ≤ (k : Int) := Int.natCast_nonneg _
    have hgl := blk_lt hin
    clear hgot hin hgr hpre
    by_cases hlt : k < names.length
    · obtain ⟨b7, o7, nm, rfl, hb7, e7, p7⟩ := (hN6.out _ Hgr.out).str_at hlt
      have k1 : (k : Int) < (names.length : Int) := by omega
      have E7 := Lib.hid e7
      clear e7
      go_wp2_with fail
      refine bunHas_calls l _ nm _ ((HL6.out _ Hgr.out).more (Nat.le_of_lt hgl)) _ (fun w8 hb8 => ?_)
      have hgl8 : W5.heap.size < w8.heap.size := Nat.lt_of_lt_of_le hgl hb8.size
      have Hgr8 := Lib.hid (Hgr.out.on hb8)
      have Hin8 := Lib.hid ((hb8.block _ hgl).trans Hin.out)
      have hoc := owner_cases l nm
      clear hb8 p7
      rcases hoc with hneg | ⟨kk, hkk, hkl⟩
      · have hnb : needF bs names = (6, (k : Int)) ∧ NeedsM bs names [] := by
          have hL := Hll.out
          refine need_bad2 Hz01.out Hmany.out E7.out (by rw [hL]; exact hneg) (fun j x hj hx => by rw [hL]; have := Hpre.out j x hj hx; omega)
        have hret := HR.out
        rw [hnb.1] at hret
        have Hret := Lib.hid (fun w' v' hb hs => hret w' v' [] hb hnb.2 hs)
        clear hret hnb
        generalize ownerL l nm = r at *
        go_wp2_with fail
        refine Fault_calls _ _ _ _ (fun w9 hb9 => ?_)
        obtain ⟨k1', k4, k3⟩ := HK.out _ (HB.out _ (Hgr8.out.on hb9))
        have HF9 := Lib.hid k1'
        have Hk9 := Lib.hid k3
        obtain ⟨d0, d1, y0, y1⟩ := cells_of_block k1'
        clear hb9 k1' k3
        go_wp2
        refine bodyPost_ret (v := .tuple #[.slice none 0 0, .agg #[.int .i64 6, .int .i64 (k : Int)]]) (res_slF (by rfl) (by rfl) (by rfl) (blkp HF9.out)) rfl ?_
        have hb := Hk9.out
        refine Hret.out _ _ ?_ (Rp.SL.nil _ _ _)
        exact bl0
      · have Hks : Hid (needKs l (names.take (k + 1)) = needKs l (names.take k) ++ [kk]) := Lib.hid (by
          rw [needKs_step l E7.out, hkk]
          rfl)
        have Hpre2 : Hid (∀ (j : Nat) x, j < k + 1 → names[j]? = some x → 0 ≤ ownerL l x) := Lib.hid fun j x hj hx => by
          rcases Nat.lt_or_ge j k with h | h
          · exact Hpre.out j x h hx
          · obtain rfl : j = k := by omega
            obtain rfl : nm = x := Option.some.inj (E7.out.symm.trans hx)
            omega
        have hSl : S.length = l.length := Hgot.out.len
        have r0 : ¬ ((kk : Int) < 0) := by omega
        rw [hkk]
        clear hkk
        go_wp2_with fail
        refine need_calls (leftM S + 1) l (kk : Int) S W5.heap.size _ _ _ (Nat.lt_succ_self _) (HL6.out _ Hgr8.out) Hin8.out hSl hl12 (.inr ⟨kk, rfl, hkl⟩) (fun w9 T hg9 hin9 hneed => ?_)
        have Hgr9 := Lib.hid (Hgr8.out.trans hg9 (fun j _ e => e))
        have Hin9 := Lib.hid hin9
        have Hgot9 : Hid (GotM l (needKs l (names.take (k + 1))) T) := Lib.hid (by rw [Hks.out]; exact Hgot.out.step hneed)
        clear hg9 hin9 hneed
        go_wp2
        go_roundg (names.length - (k + 1))
        case measure => omega
        case rel => exact ⟨k + 1, T, hlt, rfl, by go_num, Hgot9.out, Hin9.out, Hgr9.out, Hpre2.out⟩
    · obtain rfl : k = names.length := by omega
      have k1 : ¬ (names.length : Int) < (names.length : Int) := by omega
      rename World => W7
      rw [List.take_length] at Hgot
      have hgot := Hgot.out
      have hin := Hin.out
      have hgr := Hgr.out
      have hpre : ∀ (j : Nat) x, names[j]? = some x → 0 ≤ ownerL l x := fun j x hx => Hpre.out j x (List.getElem?_eq_some_iff.1 hx).1 hx
      have hL := Hll.out
      have hnb : needF bs names = (0, 0) ∧ NeedsM bs names (idxsM S) := need_good Hz01.out Hmany.out (fun j x hx => by rw [hL]; have := hpre j x hx; omega) (S := S) (by rw [hL]; exact hgot)
      have hret := HR.out
      rw [hnb.1] at hret
      have Hret := Lib.hid (fun w' v' hb hs => hret w' v' (idxsM S) hb hnb.2 hs)
      have hSl : S.length = l.length := hgot.len
      have Hin := Lib.hid hin
      have hgl := blk_lt hin
      have Hb7 := Lib.hid (HB.out _ hgr)
      have hz7 : W0.heap.size ≤ W7.heap.size := (HB.out _ hgr).size
      clear hret hnb hL hgot hin hgr hpre
      go_wp2_with fail
      go_loopg [12, 13, 14, 54] l.length (fun gh s12 s13 s14 s54 wr => ∃ k : Nat, k ≤ l.length ∧ gh = l.length - k ∧ s54 = .int .i64 (k : Int) ∧ wr.ownsRow W7.heap.size 3 1 s12 (idxsTo S k).length ((idxsTo S k).flatMap intCells) ∧ Below W7.heap.size W7 wr)
      case atStart => exact ⟨0, Nat.zero_le _, rfl, rfl, World.ownsRow_nil _ _ _ _, Below.refl _ _⟩
      case round =>
        obtain ⟨k, hk, rfl, rfl, hown, hbel⟩ := hrel
        have Hown := Lib.hid hown
        have Hbel := Lib.hid hbel
        have hz := hbel.size
        have k0 : (0 : Int) ≤ (k : Int) := Int.natCast_nonneg _
        have hgr0 := (hbel.block _ hgl).trans Hin.out
        obtain ⟨A8, c8, rfl⟩ := own_slice hown
        clear hown
        by_cases hlt : k < l.length
        · have k1 : (k : Int) < (l.length : Int) := by omega
          obtain ⟨b0, hb0⟩ : ∃ b0, S[k]? = some b0 := ⟨_, List.getElem?_eq_getElem (by omega)⟩
          obtain ⟨cc, _⟩ := bools_cell hgr0 hb0
          have Hb0' := Lib.hid hb0
          clear hgr0 hb0 hbel
          cases b0 with
          | false =>
            have hst := Lib.hid (idxsTo_no (S := S) (k := k) (by rw [Hb0'.out]; simp))
            go_wp2
            go_roundg (l.length - (k + 1))
            case measure => omega
            case rel => exact ⟨k + 1, hlt, rfl, by go_num, by rw [hst.out]; exact Hown.out, Hbel.out⟩
          | true =>
            have hst := Lib.hid (idxsTo_yes (S := S) (k := k) Hb0'.out)
            have hil := idxsTo_len S k
            have hst2 : (idxsTo S (k + 1)).length = (idxsTo S k).length + 1 ∧ (idxsTo S (k + 1)).flatMap intCells = (idxsTo S k).flatMap intCells ++ [.int .i64 (k : Int)] := by
              rw [hst.out]
              refine ⟨by simp, ?_⟩
              rw [List.flatMap_append]
              rfl
            have Hst2 := Lib.hid hst2
            have hown9 := Lib.hid (own_below Hown.out ((Below.refl wr.heap.size wr).alloc (Nat.le_refl _) (Obj.cells #[.int .i64 (k : Int)] 3)))
            clear hst2 hst
            generalize idxsTo S k = xs at *
            go_wp2_with (at_builtin; refine wpList_append_lies _ rfl _ _ 31 rfl W7.heap.size 3 iI _ 1 8 Tryz.underlying31 hiI zI0 zI1 zI2 rfl (by decide) (.slice A8 xs.length c8) xs.length (xs.flatMap intCells) rfl hown9.out ⟨wr.heap.size, 0, none⟩ 1 1 [.int .i64 (k : Int)] rfl rfl ?_ ?_ (by decide) ?_ ?_ ?_ _ rfl ?_)
            any_goals (first | exact World.news_of_block (cs := #[.int .i64 (k : Int)]) (t := 3) (fr := (0, 0)) (heap_alloc_new _ _) | (simp [Value.oneCell']; done) | (unfold maxLen; omega) | omega | (simp; done) | (simp; omega))
            intro gb cap w9 hown hgrow9 hat9 hlt9
            have hbel9 := (Hbel.out.alloc Hbel.out.size (Obj.cells #[.int .i64 (k : Int)] 3)).trans ((Grew.of_grown hgrow9).below (B := W7.heap.size) (fun j hj e => by have := (Hown.out.lt j e).1; omega) (by simp; omega))
            have Hbel9 := Lib.hid hbel9
            have HownN : Hid (w9.ownsRow W7.heap.size 3 1 (.slice (some ⟨gb, 0, none⟩) (xs.length + 1) cap) (idxsTo S (k + 1)).length ((idxsTo S (k + 1)).flatMap intCells)) := Lib.hid (by rw [Hst2.out.1, Hst2.out.2]; exact hown)
            clear hown hgrow9 hat9 hbel9
            go_wp2
            go_roundg (l.length - (k + 1))
            case measure => omega
            case rel => exact ⟨k + 1, hlt, rfl, by go_num, HownN.out, Hbel9.out⟩
        · obtain rfl : k = l.length := by omega
          have k1 : ¬ (l.length : Int) < (l.length : Int) := by omega
          obtain ⟨kf, _, kb⟩ := HK.out _ (Hb7.out.trans (hbel.mono hz7))
          have HFe := Lib.hid kf
          have Hke := Lib.hid kb
          have hqe := blk_lt kf
          have hzi : idxsM S = idxsTo S l.length := by unfold idxsM; rw [hSl]
          have hne : (Value.slice A8 (idxsTo S l.length).length c8).ownBlock ≠ some w.heap.size := fun e => by have := (Hown.out.lt _ e).1; omega
          have Hrow : Hid (∀ u u', rpInt.SL ((wr.setCell ⟨w.heap.size, 0, none⟩ u).setCell ⟨w.heap.size, 1, none⟩ u') ((wr.setCell ⟨w.heap.size, 0, none⟩ u).setCell ⟨w.heap.size, 1, none⟩ u').heap.size (idxsM S) (.slice A8 (idxsTo S l.length).length c8)) := Lib.hid fun u u' => by
            rw [hzi]
            exact SLint_own (own_setCell_other (own_setCell_other Hown.out hne u) hne u') (Nat.le_refl _)
          clear hne
          obtain ⟨d0, d1, y0, y1⟩ := cells_of_block kf
          clear kf kb hgr0 hbel hzi
          generalize (idxsTo S l.length).length = il at *
          go_wp2
          refine bodyPost_ret (v := .tuple #[.slice A8 il c8, .agg #[.int .i64 0, .int .i64 0]]) (res_slF (by rfl) (by rfl) (by rfl) (blkp HFe.out)) rfl ?_
          have hb := Hke.out
          refine Hret.out _ _ ?_ ?_
          · exact bl0
          · exact Hrow.out _ _
end Go.Proofs.YtcakodemngchpaaGreatDoor
