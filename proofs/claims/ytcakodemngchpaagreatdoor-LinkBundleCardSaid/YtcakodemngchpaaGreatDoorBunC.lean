/- A bundle's bytes, read again, plainly. The bundle's reader: numbers, with how much is left where one does not stand there; bytes of a text. The bundle's reader: the bytes of a text. bundle.open: objects out of a bundle's bytes. bundle.Open: objects out of a bundle's bytes, or what is wrong. -/
import Derived.Test.YtcakodemngchpaaGreatDoorBunA
import Derived.Test.YtcakodemngchpaaGreatDoorBackA
import Derived.Test.YtcakodemngchpaaGreatDoorBase
import Derived.Test.YtcakodemngchpaaGreatDoorRows
import Derived.IntWalk
import Derived.Deep.LoopGhost
import Derived.Outline
import Derived.Test.YtcakodemngchpaaGreatDoorLoadA
import Derived.Deep.CutBlock
import Derived.Deep.DeepCutAuto
import Derived.Deep.RegionHeld3
import Derived.Deep.RegionLaw
import Derived.Test.YtcakodemngchpaaGreatDoorBunB
/- A bundle's bytes, read again, plainly. -/
namespace Go.Proofs.YtcakodemngchpaaGreatDoor
open Go.RowKit
set_option linter.unusedSimpArgs false
set_option linter.unusedVariables false

def entP : Prs (ByteArray × Nat) := fun bs => (textL bs).bind fun a => (numberL a.2).map fun n => ((a.1, n.1), n.2)
def objP : Prs Object := fun bs => (textL bs).bind fun a => (loadedL a.1.data.toList).map fun o => (o, a.2)
def midB (b : List UInt8) : List UInt8 := (b.take (b.length - 2)).drop 3
def restP (b : List UInt8) : Option (List Object) := (numberL (midB b)).bind fun m => (numberL m.2).bind fun k => (timesL entP k.1 k.2).bind fun e => (timesL objP m.1 e.2).map (·.1)
def bundleP (b : List UInt8) : Option (List Object) := if 5 ≤ b.length ∧ b.take 3 = [76, 73, 66] then restP b else none
/-- What a bundle's bytes hold: what is read, where it may be and is written so. -/
def openL (b : List UInt8) : Option (List Object) := if 90000 < b.length then none else (bundleP b).bind fun l => if (bunF l).1 = 0 ∧ packB l = b then some l else none
def openO (b : List UInt8) : List Object := (openL b).getD []
def openF (b : List UInt8) : Int × Int := if 90000 < b.length then (2, 0) else if (openL b).isSome = true then (0, 0) else (1, 0)

theorem objP_wide {bs : List UInt8} {o : Object} {r : List UInt8} (h : objP bs = some (o, r)) : Wide o := by
  unfold objP at h
  rw [Option.bind_eq_some_iff] at h
  obtain ⟨⟨s, r1⟩, h1, h⟩ := h
  rw [Option.map_eq_some_iff] at h
  obtain ⟨o', h2, h⟩ := h
  obtain ⟨rfl, rfl⟩ := Prod.mk.inj h
  exact (loadedL_back h2).2
theorem bundleP_wide {b : List UInt8} {l : List Object} (h : bundleP b = some l) : ∀ o ∈ l, Wide o := by
  unfold bundleP restP at h
  split at h
  · rw [Option.bind_eq_some_iff] at h
    obtain ⟨⟨m, r1⟩, h1, h⟩ := h
    rw [Option.bind_eq_some_iff] at h
    obtain ⟨⟨k, r2⟩, h2, h⟩ := h
    rw [Option.bind_eq_some_iff] at h
    obtain ⟨⟨es, r3⟩, h3, h⟩ := h
    rw [Option.map_eq_some_iff] at h
    obtain ⟨⟨l', r4⟩, h4, rfl⟩ := h
    exact timesL_mem (fun _ _ _ h => objP_wide h) _ _ _ _ h4
  · cases h

theorem packB_len (l : List Object) : (packB l).length = (bunB l).length + 2 := by unfold packB sumB; simp
theorem midB_pack (l : List Object) : midB (packB l) = (bunB l).drop 3 := by
  unfold midB
  rw [packB_len, Nat.add_sub_cancel]
  unfold packB sumB
  rw [List.take_left]
theorem bunB_head (l : List Object) : (bunB l).take 3 = [76, 73, 66] ∧ 5 ≤ (bunB l).length := by
  have h1 := numB_pos_ l.length
  have h2 := numB_pos_ (idxL l).length
  unfold bunB
  constructor
  · rfl
  · simp only [List.length_append, List.length_cons, List.length_nil]
    omega
theorem packB_head (l : List Object) : (packB l).take 3 = [76, 73, 66] ∧ 5 ≤ (packB l).length := by
  have h1 := bunB_head l
  refine ⟨?_, by rw [packB_len]; omega⟩
  unfold packB sumB
  rw [List.take_append_of_le_length (by omega)]
  exact h1.1
theorem idx_names {l : List Object} (h : BunOk l) {e : ByteArray × Nat} (he : e ∈ idxL l) : e.1.size ≤ 12 ∧ e.2 < 12 := by
  have h1 := idx_owner h he
  unfold idxL at he
  rw [mem_addE] at he
  rcases he with he | he
  rotate_left
  · cases he
  obtain ⟨h2, o, s, ho, hs, hn⟩ := mem_pairsTo _ he
  obtain ⟨k, hk, e⟩ := List.mem_iff_getElem.1 hs
  have h3 := ((h.each _ o ho).ok.secs k s (by rw [List.getElem?_eq_getElem hk, e])).good
  have h4 := (goodName_len h3).2
  rw [hn] at h4
  have := h.few
  exact ⟨h4, by omega⟩
theorem entB_pos (e : ByteArray × Nat) : 0 < (entB e).length := by
  unfold entB
  have := textB_pos e.1
  rw [List.length_append]
  omega
theorem entP_of {e : ByteArray × Nat} (h1 : e.1.size ≤ 12) (h2 : e.2 < 12) : Into entP entB e := fun r => by
  unfold entP entB
  rw [List.append_assoc, textL_of (by omega)]
  simp only [Option.bind_some]
  rw [numberL_of (by omega)]
  rfl
theorem objP_of {o : Object} (h : ObjOk o) (hw : Wide o) : Into objP objB o := fun r => by
  have h1 := bodyB_len h
  have h2 : (savedB o).length = (bodyB o).length + 2 := by unfold savedB sumB; simp
  unfold objP objB
  rw [textL_of (by rw [strL_size]; omega)]
  simp only [Option.bind_some]
  rw [show (strL (savedB o)).data.toList = savedB o from by simp [strL], loadedL_saved h hw]
  rfl
theorem bunB_rest (l : List Object) : (bunB l).drop 3 = numB l.length ++ (numB (idxL l).length ++ ((idxL l).flatMap entB ++ (l.flatMap objB ++ []))) := by
  unfold bunB
  rw [List.append_nil]
  rfl
theorem rest_len {l : List Object} (hl : (packB l).length ≤ 90000) : (idxL l).length ≤ 90000 := by
  have h1 := flat_long entB_pos (idxL l)
  rw [packB_len] at hl
  unfold bunB at hl
  simp only [List.length_append] at hl
  omega
theorem restP_pack {l : List Object} (h : BunOk l) (hw : ∀ o ∈ l, Wide o) (hl : (packB l).length ≤ 90000) : restP (packB l) = some l := by
  have h1 := rest_len hl
  have h2 := h.few
  unfold restP
  rw [midB_pack, bunB_rest, numberL_of (by omega)]
  simp only [Option.bind_some]
  rw [numberL_of (by omega)]
  simp only [Option.bind_some]
  rw [timesL_of _ _ (fun e he => entP_of (idx_names h he).1 (idx_names h he).2)]
  simp only [Option.bind_some]
  rw [timesL_of _ _ (fun o ho => by
    obtain ⟨k, hk, e⟩ := List.mem_iff_getElem.1 ho
    exact objP_of (h.each k o (by rw [List.getElem?_eq_getElem hk, e])).ok (hw o ho))]
  rfl
/-- Bytes hold objects just if those may stand together and are written so. -/
theorem openL_some {b : List UInt8} {l : List Object} : openL b = some l ↔ b.length ≤ 90000 ∧ (bunF l).1 = 0 ∧ packB l = b ∧ ∀ o ∈ l, Wide o := by
  unfold openL
  constructor
  · intro h
    split at h
    · cases h
    rw [Option.bind_eq_some_iff] at h
    obtain ⟨l', h1, h2⟩ := h
    split at h2
    · injection h2 with h2
      subst h2
      rename_i h3
      exact ⟨by omega, h3.1, h3.2, bundleP_wide h1⟩
    · cases h2
  · rintro ⟨h1, h2, rfl, h3⟩
    have h4 := (bunF_ok h2).2
    have hp : bundleP (packB l) = some l := by
      unfold bundleP
      rw [if_pos ⟨(packB_head l).2, (packB_head l).1⟩]
      exact restP_pack h4 h3 h1
    rw [if_neg (by omega), hp]
    simp only [Option.bind_some]
    simp [h2]
theorem openL_P {b : List UInt8} {l : List Object} (h : openL b = some l) : bundleP b = some l := by
  obtain ⟨h1, h2, rfl, h3⟩ := openL_some.1 h
  unfold bundleP
  rw [if_pos ⟨(packB_head l).2, (packB_head l).1⟩]
  exact restP_pack (bunF_ok h2).2 h3 h1
theorem openL_ok {b : List UInt8} {l : List Object} (h : openL b = some l) : BunOk l ∧ b.length ≤ 90000 := by
  obtain ⟨h1, h2, _, _⟩ := openL_some.1 h
  exact ⟨(bunF_ok h2).2, h1⟩
/-- What either reads, weighed. -/
theorem open_of {b : List UInt8} {p : Option (List Object)} (h0 : ∀ l, openL b = some l → p = some l) {l : List Object} (hp : p = some l) (hbad : (bunF l).1 ≠ 0 ∨ packB l ≠ b) : openL b = none := by
  cases h : openL b with
  | none => rfl
  | some l' =>
    have h1 := h0 _ h
    rw [hp] at h1
    injection h1 with h1
    subst h1
    obtain ⟨_, h2, h3, _⟩ := openL_some.1 h
    rcases hbad with h4 | h4
    · exact absurd h2 h4
    · exact absurd h3 h4
theorem open_none {b : List UInt8} {p : Option (List Object)} (h0 : ∀ l, openL b = some l → p = some l) (hp : p = none) : openL b = none := by
  cases h : openL b with
  | none => rfl
  | some l' =>
    have h1 := h0 _ h
    rw [hp] at h1
    cases h1
theorem openF_some {b : List UInt8} {l : List Object} (h : openL b = some l) : openF b = (0, 0) ∧ openO b = l := by
  have h1 := (openL_ok h).2
  unfold openF openO
  rw [if_neg (by omega), h]
  exact ⟨rfl, rfl⟩
theorem openF_none {b : List UInt8} (hl : ¬ 90000 < b.length) (h : openL b = none) : openF b = (1, 0) ∧ openO b = [] := by
  unfold openF openO
  rw [if_neg hl, h]
  exact ⟨rfl, rfl⟩
theorem openF_long {b : List UInt8} (hl : 90000 < b.length) : openF b = (2, 0) ∧ openO b = [] ∧ openL b = none := by
  unfold openF openO openL
  rw [if_pos hl, if_pos hl]
  exact ⟨rfl, rfl, rfl⟩
theorem openL_pack {l : List Object} (h : packF l = (0, 0)) (hw : ∀ o ∈ l, Wide o) : openL (packB l) = some l := by
  unfold packF at h
  split at h
  · rename_i h1
    rw [h] at h1
    exact absurd rfl h1
  · rename_i h1
    split at h
    · cases h
    · exact openL_some.2 ⟨by omega, by simpa using h1, rfl, hw⟩
end Go.Proofs.YtcakodemngchpaaGreatDoor

/- The bundle's reader: numbers, with how much is left where one does not stand there; bytes of a text. -/
namespace Go.Proofs.YtcakodemngchpaaGreatDoor
open Go.RowKit
set_option linter.unusedSimpArgs false
set_option linter.unusedVariables false

theorem byteS_len {l r : List UInt8} {x : Nat} {q q1 : Bool} (h : byteS l q = (x, r, q1)) : r.length ≤ l.length := by
  cases l with
  | nil =>
    simp only [byteS, Prod.mk.injEq] at h
    obtain ⟨_, rfl, _⟩ := h
    exact Nat.le_refl _
  | cons b l =>
    simp only [byteS, Prod.mk.injEq] at h
    obtain ⟨_, rfl, _⟩ := h
    exact Nat.le_succ _

set_option maxRecDepth 100000 in
set_option maxHeartbeats 4000000 in
theorem Number_short (p : Nat) (bs : List UInt8) (bad : Bool) (w : World) (h : Rd w p bs bad) (R : Ending → World → Prop)
    (hgood : ∀ n r, n < 18446744073709551616 → bad = false → numberL bs = some (n, r) → ∀ w', w.grownBy w' (some p) → Rd w' p r false → R (.returned (.int .u64 (n : Nat))) w')
    (hbad : (bad = true ∨ numberL bs = none) → ∀ (w' : World) (n : Nat) r, n < 18446744073709551616 → r.length ≤ bs.length → w.grownBy w' (some p) → Rd w' p r true → R (.returned (.int .u64 (n : Nat))) w') :
    Calls Tryz.prog 41 #[.pointer (some ⟨p, 0, none⟩)] w R := by
  have Hgood := Lib.hid hgood
  have Hbad := Lib.hid hbad
  have Hrd := Lib.hid h
  clear hgood hbad h
  go_enter Tryz.func41, Tryz.ntmps41
  go_wp2
  go_loopg [3, 4, 5] 10 (fun g n s b wr => ∃ (i acc : Nat) (l : List UInt8) (q : Bool), i ≤ 10 ∧ g = 10 - i ∧ n = .int .u64 (acc : Int) ∧ s = .int .i64 ((7 * i : Nat) : Int) ∧ acc < 2 ^ (7 * i) ∧ acc < 18446744073709551616 ∧ Rd wr p l q ∧ w.grownBy wr (some p) ∧ (q = false → bad = false ∧ numL (10 - i) i acc l = numberL bs) ∧ (q = true → bad = true ∨ numberL bs = none) ∧ l.length ≤ bs.length)
  case atStart => exact ⟨0, 0, bs, bad, by omega, rfl, rfl, rfl, by omega, by omega, Hrd.out, grown_refl _ _, fun h => ⟨h, rfl⟩, fun h => .inl h, Nat.le_refl _⟩
  case round =>
    obtain ⟨i, acc, l, q, hi, rfl, rfl, rfl, ha, ha2, hrd, hgr, hq0, hq1, hll⟩ := hrel
    have Hq0 := Lib.hid hq0
    have Hq1 := Lib.hid hq1
    have Hgr := Lib.hid hgr
    have Ha := Lib.hid ha
    clear hq0 hq1 hgr ha Hrd
    by_cases hlt : i < 10
    · have i1 : ((7 * i : Nat) : Int) < 70 := by omega
      go_wp2_with fail
      refine Byte_any p l q _ hrd _ (fun x r q1 hbs hx w1 hg1 hr1 => ?_)
      have hrl := byteS_len hbs
      obtain ⟨h0, h1⟩ := byte_step hlt hbs Hq0.out Hq1.out
      have H0 := Lib.hid h0
      have H1 := Lib.hid h1
      have Hg1 := Lib.hid (grown_trans Hgr.out hg1)
      clear Hq0 Hq1 Hgr hrd hbs h0 h1 hg1
      -- Bad is set, whatever it was
      obtain ⟨vv, TT, hbk, hss⟩ := id hr1
      have hlp : p < w1.heap.size := hr1.lt
      have Hset : Hid (∀ T, (q1 = true ∨ stepN i acc x r = none) → T = w1.setCell ⟨p, 1, none⟩ (.bool true) → R (.returned (.int .u64 0)) T) := Lib.hid fun T hc e => by
        subst e
        refine Hbad.out ?_ _ 0 r (by omega) (by omega) (grown_trans Hg1.out (grown_setCell w1 ⟨p, 1, none⟩ _)) ⟨vv, TT, by rw [block_set hbk]; rfl, SL_grown hss (grown_setCell w1 ⟨p, 1, none⟩ _) (by omega)⟩
        cases q1
        · right
          rw [← (H0.out rfl).2]
          exact hc.resolve_left (by simp)
        · exact H1.out rfl
      obtain ⟨c0, c1, z0, z1⟩ := cells_of_block hbk
      have Hret : Hid (∀ n : Int, x < 128 → ¬ ((i = 9 ∧ 1 < x) ∨ (0 < i ∧ x = 0)) → n = ((acc + x % 128 * 2 ^ (7 * i) : Nat) : Int) → acc + x % 128 * 2 ^ (7 * i) < 18446744073709551616 → R (.returned (.int .u64 n)) w1) := Lib.hid fun n hx hc e hf => by
        subst e
        rw [Nat.mod_eq_of_lt hx] at hf ⊢
        cases q1
        · refine Hgood.out _ r hf (H0.out rfl).1 ?_ _ Hg1.out hr1
          rw [← (H0.out rfl).2, stepN, if_neg hc, if_pos hx]
        · exact Hbad.out (H1.out rfl) _ _ r hf (by omega) Hg1.out hr1
      have Hnext : Hid (¬ x < 128 → ¬ (0 < i ∧ x = 0) → (q1 = false → bad = false ∧ numL (10 - (i + 1)) (i + 1) (acc + x % 128 * 2 ^ (7 * i)) r = numberL bs)) := Lib.hid fun h1 h2 hq => by
        have h3 := H0.out hq
        rw [stepN] at h3
        refine ⟨h3.1, ?_⟩
        rw [← h3.2]
        by_cases h9 : i = 9
        · subst h9
          rw [if_pos (by omega)]
          rfl
        · rw [if_neg (by omega), if_neg h1, show x % 128 = x - 128 from by omega]
      have Hr1 := Lib.hid hr1
      clear hr1 hbk hss
      have hx0 : (0 : Int) ≤ (x : Int) := Int.natCast_nonneg _
      have hx1 : (x : Int) < 256 := by omega
      by_cases hb : 0 < i ∧ x = 0
      · have Hend := Lib.hid (fun T => Hset.out T (.inr (by rw [stepN, if_pos (.inr hb)])))
        obtain ⟨hb1, rfl⟩ := hb
        have j0 : (0 : Int) < ((7 * i : Nat) : Int) := by omega
        clear Hset Hret Hnext
        go_wp2
        exact Hend.out _ rfl
      have hm := bits_mask .i64 63 (by decide) (fun n h0 h1 => by rw [IntKind.wrap_i64]; omega) 7 (by decide) (x : Int) (by omega) (by omega)
      have hm' : bits .and .i64 (x : Int) 127 = ((x % 128 : Nat) : Int) := by simpa using hm
      clear hm
      by_cases h9 : i = 9 ∧ 2 ≤ x % 128
      · have Hend := Lib.hid (fun T => Hset.out T (.inr (by rw [stepN, if_pos (.inl (by omega))])))
        obtain ⟨rfl, h9⟩ := h9
        have hxn : ((x : Int) == 0) = false := by simp; omega
        clear Hset Hret Hnext
        go_wp2_with (first | (go_at_call 74; refine Len_calls (x % 128) (Nat.mod_lt _ (by decide)) _ _ (fun n n0 n1 n2 => ?_); have n3 : (2 : Int) ≤ n := n2.2 h9; clear n2; have n4 : (64 : Int) < 63 + n := by omega))
        all_goals exact Hend.out _ rfl
      obtain ⟨k1, k2⟩ := acc_fits (x := x % 128) hlt Ha.out (Nat.mod_lt _ (by decide)) (fun h => by omega)
      have K1 := Lib.hid k1
      have K2 := Lib.hid k2
      have hor := or_low (x := x % 128) (s := 7 * i) Ha.out (pow_fits hlt (Nat.mod_lt _ (by decide)) (fun h => by omega)) ha2
      rw [show ((x % 128 : Nat) : Int) = (x : Int) % 128 from by omega] at hor
      have Hor := Lib.hid hor
      have Hx2 := Lib.hid (show ∀ n : Int, n ≤ 7 → (2 ≤ n ↔ 2 ≤ x % 128) → ¬ (64 : Int) < ((7 * i : Nat) : Int) + n from fun n n1 n2 => by omega)
      have Hi := Lib.hid hlt
      have Hb := Lib.hid hb
      have H9 := Lib.hid h9
      have Hc : Hid (x < 128 → ¬ ((i = 9 ∧ 1 < x) ∨ (0 < i ∧ x = 0))) := Lib.hid (by omega)
      clear k1 k2 hb h9 hlt Hset hor
      by_cases hi0 : i = 0
      · subst hi0
        have hor := Hor.out
        rw [show IntKind.u64.wrap ((x : Int) % 128 * 2 ^ (7 * 0)) = (x : Int) % 128 from by rw [IntKind.wrap_u64]; simp; omega] at hor
        clear Hor
        have Hor := Lib.hid hor
        clear hor
        by_cases hx128 : x < 128
        · have hxi : (x : Int) < 128 := by omega
          have HR := Lib.hid (fun n => Hret.out n hx128 (Hc.out hx128))
          clear hx128 Hret Hnext
          go_wp2_with (first | (go_at_call 74; refine Len_calls (x % 128) (Nat.mod_lt _ (by decide)) _ _ (fun n n0 n1 n2 => ?_); have n3 := Hx2.out n n1 n2; clear n2; have n4 : ¬ (64 : Int) < n := by omega))
          all_goals exact HR.out _ Hor.out K2.out
        · have hxi : ¬ (x : Int) < 128 := by omega
          have HN := Lib.hid (Hnext.out hx128 (by omega))
          clear hx128 Hret Hnext
          go_wp2_with (first | (go_at_call 74; refine Len_calls (x % 128) (Nat.mod_lt _ (by decide)) _ _ (fun n n0 n1 n2 => ?_); have n3 := Hx2.out n n1 n2; clear n2; have n4 : ¬ (64 : Int) < n := by omega))
          all_goals
            go_roundg 9
            case measure => omega
            case rel => exact ⟨1, _, r, q1, by omega, rfl, by rw [← Hor.out], rfl, K1.out, K2.out, Hr1.out, Hg1.out, HN.out, H1.out, by omega⟩
      · have hgz : ((0 : Int) < ((7 * i : Nat) : Int)) := by omega
        have hxz : ((x : Int) == 0) = false := by have := Hb.out; simp; omega
        by_cases hx128 : x < 128
        · have hxi : (x : Int) < 128 := by omega
          have HR := Lib.hid (fun n => Hret.out n hx128 (Hc.out hx128))
          clear hx128 Hret Hnext
          go_wp2_with (first | (go_at_call 74; refine Len_calls (x % 128) (Nat.mod_lt _ (by decide)) _ _ (fun n n0 n1 n2 => ?_); have n3 := Hx2.out n n1 n2; clear n2))
          all_goals exact HR.out _ Hor.out K2.out
        · have hxi : ¬ (x : Int) < 128 := by omega
          have HN := Lib.hid (Hnext.out hx128 Hb.out)
          clear hx128 Hret Hnext
          go_wp2_with (first | (go_at_call 74; refine Len_calls (x % 128) (Nat.mod_lt _ (by decide)) _ _ (fun n n0 n1 n2 => ?_); have n3 := Hx2.out n n1 n2; clear n2))
          all_goals
            go_roundg (10 - (i + 1))
            case measure => have := Hi.out; omega
            case rel => exact ⟨i + 1, _, r, q1, Hi.out, rfl, by rw [← Hor.out], by go_num, K1.out, K2.out, Hr1.out, Hg1.out, HN.out, H1.out, by omega⟩
    · obtain rfl : i = 10 := by omega
      have hn : ∀ r, numL (10 - 10) 10 acc r = none := fun _ => rfl
      obtain ⟨vv, TT, hbk, hss⟩ := id hrd
      have hlp : p < wr.heap.size := hrd.lt
      obtain ⟨c0, c1, z0, z1⟩ := cells_of_block hbk
      have Hend : Hid (∀ T, T = wr.setCell ⟨p, 1, none⟩ (.bool true) → R (.returned (.int .u64 0)) T) := Lib.hid fun T e => by
        subst e
        refine Hbad.out ?_ _ 0 l (by omega) hll (grown_trans Hgr.out (grown_setCell wr ⟨p, 1, none⟩ _)) ⟨vv, TT, by rw [block_set hbk]; rfl, SL_grown hss (grown_setCell wr ⟨p, 1, none⟩ _) (by omega)⟩
        cases q
        · right
          rw [← (Hq0.out rfl).2]
          rfl
        · exact Hq1.out rfl
      clear hbk hss hn hrd
      go_wp2
      exact Hend.out _ rfl
theorem Number_any (p : Nat) (bs : List UInt8) (bad : Bool) (w : World) (h : Rd w p bs bad) (R : Ending → World → Prop)
    (hR : ∀ (n : Nat) r (q : Bool), n < 18446744073709551616 → r.length ≤ bs.length → (q = false → bad = false ∧ numberL bs = some (n, r)) → (q = true → bad = true ∨ numberL bs = none) → ∀ w', w.grownBy w' (some p) → Rd w' p r q → R (.returned (.int .u64 (n : Nat))) w') :
    Calls Tryz.prog 41 #[.pointer (some ⟨p, 0, none⟩)] w R :=
  Number_short p bs bad w h R (fun n r hn hb hm w' hg hr => hR n r false hn (Nat.le_of_lt (numberL_short _ _ _ hm)) (fun _ => ⟨hb, hm⟩) (fun h => by cases h) w' hg hr) (fun hb w' n r hn hl hg hr => hR n r true hn hl (fun h => by cases h) (fun _ => hb) w' hg hr)
end Go.Proofs.YtcakodemngchpaaGreatDoor

/- The bundle's reader: the bytes of a text. -/
namespace Go.Proofs.YtcakodemngchpaaGreatDoor
open Go.RowKit
set_option linter.unusedSimpArgs false
set_option linter.unusedVariables false

set_option maxRecDepth 100000 in
set_option maxHeartbeats 4000000 in
theorem bunRText_calls (p : Nat) (bs : List UInt8) (bad : Bool) (w : World) (h : Rd w p bs bad) (R : Ending → World → Prop)
    (hR : ∀ (s : ByteArray) v r (q : Bool), s.size ≤ bs.length → r.length ≤ bs.length → (q = false → bad = false ∧ textL bs = some (s, r)) → (q = true → bad = true ∨ textL bs = none) → ∀ w', w.grownBy w' (some p) → Rd w' p r q → rpByte.SL w' p s.data.toList v → R (.returned v) w') :
    Calls Tryz.prog 42 #[.pointer (some ⟨p, 0, none⟩)] w R := by
  have HR := Lib.hid hR
  have Hrd := Lib.hid h
  clear hR h
  go_enter Tryz.func42, Tryz.ntmps42
  go_wp2_with fail
  refine Number_any p bs bad _ Hrd.out _ (fun n r q1 hn hl a0 a1 w1 hg1 hr1 => ?_)
  have hlt := hr1.lt
  obtain ⟨v, T, hblk, hs⟩ := id hr1
  obtain ⟨c0, c1, z0, z1⟩ := cells_of_block hblk
  obtain ⟨A, c, rfl, hm, hcap, hs⟩ := hs.cases_
  have i0 : (0 : Int) ≤ (n : Int) := by omega
  have i1 : (n : Int) ≤ 18446744073709551615 := by omega
  have i2 : (r.length : Int) ≤ 9223372036854775807 := by omega
  have hno : q1 = true → bad = true ∨ textL bs = none := fun hq => by
    rcases a1 hq with h | h
    · exact .inl h
    · right
      unfold textL manyL
      rw [h]
      rfl
  by_cases hle : n ≤ r.length
  · have hgo : ∀ w' v, w1.grownBy w' (some p) → Rd w' p (r.drop n) q1 → rpByte.SL w' p (r.take n) v → R (.returned v) w' := fun w' v hg hr hs =>
      HR.out (strL (r.take n)) v (r.drop n) q1 (by rw [strL_size, List.length_take]; omega) (by rw [List.length_drop]; omega) (fun hq => ⟨(a0 hq).1, textL_some.2 ⟨n, r, manyL_some.2 ⟨(a0 hq).2, hle⟩, rfl, rfl⟩⟩) hno w' (grown_trans hg1 hg) hr (by simpa [strL] using hs)
    have Hgo := Lib.hid hgo
    have i3 : (n : Int) ≤ (r.length : Int) := by omega
    have i4 : (n : Int) ≤ (c : Int) := by omega
    have i5 : ¬ (r.length : Int) < (n : Int) := by omega
    have hk := Lib.hid (hs.take_ hle)
    have Hblk := Lib.hid hblk
    have Hs := Lib.hid hs
    clear hblk hs hr1 hg1 a0 a1 hgo hno
    cases A with
    | none =>
      obtain ⟨rfl, rfl⟩ : r = [] ∧ n = 0 := by
        have hr0 : r.length = 0 := by
          rcases Nat.eq_zero_or_pos r.length with h0 | hp
          · exact h0
          · obtain ⟨b, off, _, hA, _⟩ := Hs.out.at_ (List.getElem?_eq_getElem hp)
            cases hA
        exact ⟨List.eq_nil_of_length_eq_zero hr0, by omega⟩
      have Hnil : Hid (∀ w, rpByte.SL w p ([] : List UInt8) (.slice none 0 c)) := Lib.hid fun w => ⟨none, c, rfl, Nat.zero_le _, Nat.zero_le _, fun h => absurd h (Nat.lt_irrefl 0)⟩
      have hfin := Hgo.out (w1.setCell ⟨p, 0, none⟩ (.slice none 0 c)) (.slice none 0 c) (grown_setCell w1 ⟨p, 0, none⟩ _) ⟨_, T, blk_set0 Hblk.out _, Hnil.out _⟩ (Hnil.out _)
      have Hfin := Lib.hid hfin
      clear hfin
      go_wp2
      exact Hfin.out
    | some a =>
      have hfin := fun o ho => Hgo.out (w1.setCell ⟨p, 0, none⟩ (.slice (some o) (r.length - n) (c - n))) (.slice (some a) n c) (grown_setCell w1 ⟨p, 0, none⟩ _) ⟨_, T, blk_set0 Hblk.out _, SL_grown (bytes_drop Hs.out hle o ho) (grown_setCell w1 ⟨p, 0, none⟩ _) (by omega)⟩ (SL_grown hk.out (grown_setCell w1 ⟨p, 0, none⟩ _) (by omega))
      have Hfin := Lib.hid hfin
      clear hfin
      by_cases hcn : c = n
      · have Hf := Lib.hid (Hfin.out a (fun h => by omega))
        clear Hfin
        subst hcn
        go_wp2
        have h := Hf.out
        rw [show r.length - c = 0 from by omega, Nat.sub_self] at h
        exact h
      · have Hf := Lib.hid (Hfin.out (a.add n) (fun _ => rfl))
        clear Hfin
        go_wp2
        exact Hf.out
  · have hno2 : bad = true ∨ textL bs = none := by
      cases q1 with
      | true => exact hno rfl
      | false =>
        right
        unfold textL manyL
        rw [(a0 rfl).2]
        simp [hle]
    have hgo := HR.out ByteArray.empty (.slice none 0 0) r true (Nat.zero_le _) hl (fun h => by cases h) (fun _ => hno2) (w1.setCell ⟨p, 1, none⟩ (.bool true)) (grown_trans hg1 (grown_setCell w1 ⟨p, 1, none⟩ _)) ⟨_, T, blk_set1 hblk _, SL_grown hs (grown_setCell w1 ⟨p, 1, none⟩ _) (by omega)⟩ (Rp.SL.nil _ _ _)
    have Hgo := Lib.hid hgo
    have i5 : (r.length : Int) < (n : Int) := by omega
    clear hblk hs hr1 hg1 a0 a1 hgo hno hno2
    go_wp2
    exact Hgo.out
end Go.Proofs.YtcakodemngchpaaGreatDoor

/- bundle.open: objects out of a bundle's bytes. -/
namespace Go.Proofs.YtcakodemngchpaaGreatDoor
open Go.RowKit
set_option linter.unusedSimpArgs false
set_option linter.unusedVariables false

theorem info_Object : (Tryz.prog.info? 40).map (fun i => (i.zero, i.size, i.bytes)) = some (some (.agg #[.slice none 0 0, .slice none 0 0]), 2, 48) := by kernel_rfl
theorem open_short {b : List UInt8} (h : b.length < 5) : openL b = none := open_none (fun _ h => openL_P h) (by unfold bundleP; rw [if_neg (by omega)])
theorem open_head {b : List UInt8} (h : b.take 3 ≠ [76, 73, 66]) : openL b = none := open_none (fun _ h => openL_P h) (by unfold bundleP; rw [if_neg (fun hh => h hh.2)])
theorem open_rest {b : List UInt8} (h5 : 5 ≤ b.length) (h3 : b.take 3 = [76, 73, 66]) : bundleP b = restP b := by unfold bundleP; rw [if_pos ⟨h5, h3⟩]
/-- What comes behind the index. -/
theorem restP_of {b r1 r2 r3 : List UInt8} {m k : Nat} (h1 : numberL (midB b) = some (m, r1)) (h2 : numberL r1 = some (k, r2)) (h3 : (timesL entP k r2).map Prod.snd = some r3) : restP b = (timesL objP m r3).map (·.1) := by
  unfold restP
  rw [Option.map_eq_some_iff] at h3
  obtain ⟨⟨es, r⟩, h3, rfl⟩ := h3
  rw [h1]
  simp only [Option.bind_some]
  rw [h2]
  simp only [Option.bind_some]
  rw [h3]
  rfl
theorem restP_none1 {b : List UInt8} (h1 : numberL (midB b) = none) : restP b = none := by unfold restP; rw [h1]; rfl
theorem restP_none2 {b r1 : List UInt8} {m : Nat} (h1 : numberL (midB b) = some (m, r1)) (h2 : numberL r1 = none) : restP b = none := by
  unfold restP; rw [h1]; simp only [Option.bind_some]; rw [h2]; rfl
theorem restP_none3 {b r1 r2 : List UInt8} {m k : Nat} (h1 : numberL (midB b) = some (m, r1)) (h2 : numberL r1 = some (k, r2)) (h3 : timesL entP k r2 = none) : restP b = none := by
  unfold restP; rw [h1]; simp only [Option.bind_some]; rw [h2]; simp only [Option.bind_some]; rw [h3]; rfl
theorem times_snd {α : Type} {one : Prs α} {n : Nat} {bs r : List UInt8} {x : α} (h : one bs = some (x, r)) : (timesL one (n + 1) bs).map Prod.snd = (timesL one n r).map Prod.snd := by
  rw [timesL, h]
  simp only [Option.bind_some, Option.map_map]
  rfl

theorem grown_of_drew {w w' : World} {x : Option Nat} (h : w.drew.grownBy w' x) : w.grownBy w' x := ⟨h.os, h.tape, h.output, h.size, h.block⟩
theorem object_mk {w : World} {B : Nat} {o : Object} {v1 v2 : Value} (h1 : rpGlobal.SL w B o.globals v1) (h2 : rpSection.SL w B o.sections v2) : rpObject.rep w B o [v1, v2] := ⟨[v1], [v2], rfl, ⟨v1, rfl, h1⟩, v2, rfl, h2⟩
theorem rd_own {w w' : World} {p base : Nat} {bs : List UInt8} {bad : Bool} {x : Option Nat} (h : Rd w p bs bad) (hg : w.grownBy w' x) (hx : ∀ j, x = some j → base ≤ j) (hp : p < base) : Rd w' p bs bad := by
  have hl := h.lt
  obtain ⟨v, T, h1, h2⟩ := h
  exact ⟨v, T, (hg.block p hl (fun e => by have := hx p e.symm; omega)).trans h1, h2.keep fun a ha => World.cell?_of_block (hg.block _ (by omega) (fun e => by have := hx _ e.symm; omega))⟩
theorem objP_some {r r1 : List UInt8} {s : ByteArray} {o : Object} (h1 : textL r = some (s, r1)) (h2 : loadedL s.data.toList = some o) : objP r = some (o, r1) := by
  unfold objP
  rw [h1]
  simp only [Option.bind_some]
  rw [h2]
  rfl
theorem objP_none {r r1 : List UInt8} {s : ByteArray} (h1 : textL r = some (s, r1)) (h2 : loadedL s.data.toList = none) : objP r = none := by
  unfold objP
  rw [h1]
  simp only [Option.bind_some]
  rw [h2]
  rfl
theorem objP_none1 {r : List UInt8} (h1 : textL r = none) : objP r = none := by unfold objP; rw [h1]; rfl

set_option maxRecDepth 100000 in
set_option maxHeartbeats 8000000 in
theorem bunOpen_calls (v : Value) (bs : List UInt8) (w : World) (h : rpByte.SL w w.heap.size bs v) (hlen : bs.length ≤ 90000) (hS : Shapes w) (R : Ending → World → Prop)
    (hsome : ∀ l, openL bs = some l → ∀ w' v', Below w.heap.size w w' → rpObject.SLF w' w.heap.size w'.heap.size l v' → R (.returned (.tuple #[v', .bool true])) w')
    (hnone : openL bs = none → ∀ w', Below w.heap.size w w' → R (.returned (.tuple #[.slice none 0 0, .bool false])) w') :
    Calls Tryz.prog 20 #[v] w R := by
  have h0 := hS.1
  obtain ⟨iO, hiO, zO0, zO1, zO2⟩ := info_parts info_Object
  obtain ⟨A, c, rfl, hm, hcap, h⟩ := h.cases_
  have Hsome := Lib.hid hsome
  have Hnone := Lib.hid hnone
  have H := Lib.hid h
  have HSh := Lib.hid hS
  clear hsome hnone h hS
  by_cases h5 : bs.length < 5
  · have hfin := Lib.hid (Hnone.out (open_short h5) w (Below.refl _ _))
    have i0 : (bs.length : Int) < 5 := by omega
    clear h5
    go_enter Tryz.func20, Tryz.ntmps20
    go_wp2
    exact hfin.out
  have i0 : ¬ (bs.length : Int) < 5 := by omega
  have i0' : decide ((bs.length : Int) < 5) = false := decide_eq_false i0
  obtain ⟨b, off, rfl, hb, hcell0⟩ := H.out.byte_at (k := 0) (by omega)
  clear hcell0
  have i1 : (3 : Int) ≤ (c : Int) := by omega
  have hcv := conv_bytes (P := Tryz.prog) Tryz.underlying25 Tryz.underlying5 Tryz.underlying9 (H.out.take_ (k := 3) (by omega))
  by_cases h3 : bs.take 3 = [76, 73, 66]
  rotate_left
  · have hfin := Lib.hid (Hnone.out (open_head h3) w (Below.refl _ _))
    have htl : ((strL (bs.take 3)).toList == [76, 73, 66]) = false := by
      rw [ByteArray.toList_eq]
      simp [strL, h3]
    clear h5 h3
    go_enter Tryz.func20, Tryz.ntmps20
    go_wp2
    exact hfin.out
  have htl : ((strL (bs.take 3)).toList == [76, 73, 66]) = true := by
    rw [ByteArray.toList_eq]
    simp [strL, h3]
  have hrest := open_rest (by omega) h3
  have HP : Hid (∀ l, openL bs = some l → restP bs = some l) := Lib.hid fun l h => by rw [← hrest]; exact openL_P h
  obtain ⟨W0, hW0⟩ : ∃ W0, W0 = w.alloc (Obj.cells #[.slice (some ⟨b, off + 3, none⟩) (bs.length - 2 - 3) (c - 3), .bool false] 110) := ⟨_, rfl⟩
  have hmid : midB bs = (bs.take (bs.length - 2)).drop 3 := rfl
  have hml : (midB bs).length = bs.length - 2 - 3 := by rw [hmid, List.length_drop, List.length_take]; omega
  have hb0 : Below w.heap.size w W0 := by subst hW0; exact bl0
  have hz0 : W0.heap.size = w.heap.size + 1 := by subst hW0; simp
  have hrd0 : Rd W0 w.heap.size (midB bs) false := by
    refine ⟨.slice (some ⟨b, off + 3, none⟩) (bs.length - 2 - 3) (c - 3), 110, by subst hW0; exact heap_alloc_new _ _, ?_⟩
    have h1 := ((H.out.up hb0 (Nat.le_refl _)).take_ (k := bs.length - 2) (by omega)).drop_ (k := 3) (by rw [List.length_take]; omega) (off + 3) (fun _ => by simp [rpByte])
    exact h1
  have HW := Lib.hid hW0.symm
  have Hb0 := Lib.hid hb0
  have Hz0 := Lib.hid hz0
  have hmid9 : (midB bs).length ≤ 90000 := by omega
  have Hr0 := Lib.hid hrd0
  have Hr0d := Lib.hid (hrd0.other (w' := W0.drew) (Below.refl _ _).drew)
  have i2 : (0 : Int) ≤ (bs.length : Int) - 2 := by omega
  have i3 : (3 : Int) ≤ (bs.length : Int) - 2 := by omega
  have i4 : (bs.length : Int) - 2 ≤ (c : Int) := by omega
  have i5 : IntKind.i64.wrap ((bs.length : Int) - 2) = (bs.length : Int) - 2 := IntWalk.i64_in _ (by omega)
  have i6 : ((bs.length : Int) - 2).toNat = bs.length - 2 := by omega
  have i7 : ¬ (c = 3) := by omega
  clear h5 h3 hrest hW0 hmid hml hb0 hz0 hrd0
  go_enter Tryz.func20, Tryz.ntmps20
  go_upto_region 4 with fail
  rw [HW.out]
  go_cut [5, 6] (fun s5 s6 wx => ∃ (m k : Nat) (r1 r2 : List UInt8) (q1 q2 : Bool), s5 = .int .u64 (m : Int) ∧ s6 = .int .u64 (k : Int) ∧ m < 18446744073709551616 ∧ k < 18446744073709551616 ∧ (q1 = false → numberL (midB bs) = some (m, r1)) ∧ (q1 = true → numberL (midB bs) = none) ∧ (q2 = false → q1 = false ∧ numberL r1 = some (k, r2)) ∧ (q2 = true → q1 = true ∨ numberL r1 = none) ∧ r2.length ≤ 90000 ∧ W0.grownBy wx (some w.heap.size) ∧ Rd wx w.heap.size r2 q2)
  case first =>
    go_region_held3 (fun _ : World => True) (exact trivial) (first
      | (go_at_call 41; with_reducible refine Number_any w.heap.size r1 q1 w2 Hr1.out _ ?_; intro k r2 q2 hk hl2 b0 b1 w3 hg3 hr3; have Hc : Hid (W0.grownBy w3 (some w.heap.size) ∧ Rd w3 w.heap.size r2 q2) := Lib.hid ⟨grown_trans Hg2.out hg3, hr3⟩; have Hb0' := Lib.hid b0; have Hb1' := Lib.hid b1; clear hg3 hr3 b0 b1)
      | (go_at_call 41; with_reducible refine Number_any w.heap.size (midB bs) false _ (by first | with_reducible exact Hr0.out | with_reducible exact Hr0d.out) _ ?_; intro m r1 q1 hm1 hl1 a0 a1 w2 hg2 hr2; have hgW2 : W0.grownBy w2 (some w.heap.size) := (by first | with_reducible exact hg2 | with_reducible exact grown_of_drew hg2); have Hr1 := Lib.hid hr2; have Hg2 := Lib.hid hgW2; have Ha0 := Lib.hid a0; have Ha1 := Lib.hid a1; clear hg2 hr2 hgW2 a0 a1))
    all_goals
      go_wp2
      go_meet
      exact ⟨m, k, r1, r2, q1, q2, rfl, rfl, hm1, hk, fun h => (Ha0.out h).2, fun h => (Ha1.out h).resolve_left (by simp), Hb0'.out, Hb1'.out, by omega, Hc.out.1, Hc.out.2⟩
  case rest =>
    obtain ⟨m, k, r1, r2, q1, q2, rfl, rfl, hm1, hk1, a0, a1, b0, b1, hr2l, hg2, hrd2⟩ := hcut
    rename World => W2
    have Ha0 := Lib.hid a0
    have Ha1 := Lib.hid a1
    have Hbb0 := Lib.hid b0
    have Hbb1 := Lib.hid b1
    have Hg2 := Lib.hid hg2
    have Hrd2 := Lib.hid hrd2
    have m0 : (0 : Int) ≤ (m : Int) := Int.natCast_nonneg _
    have m1 : (m : Int) ≤ 18446744073709551615 := by omega
    clear a0 a1 b0 b1 hg2 hrd2 Hr0 Hr0d HW
    go_upto_block 0 with fail
    go_cut [] (fun wx => ∃ (r3 : List UInt8) (q3 : Bool), Rd wx w.heap.size r3 q3 ∧ W0.grownBy wx (some w.heap.size) ∧ r3.length ≤ 90000 ∧ (q3 = false → restP bs = (timesL objP m r3).map (·.1)) ∧ (q3 = true → restP bs = none))
    case first =>
      go_wp2_with fail
      go_loopg [6] k (fun gh s6 wr => ∃ (n : Nat) (r : List UInt8) (q : Bool), gh = n ∧ s6 = .int .u64 (n : Int) ∧ n ≤ k ∧ Rd wr w.heap.size r q ∧ W0.grownBy wr (some w.heap.size) ∧ r.length ≤ 90000 ∧ (q = false → q2 = false ∧ (timesL entP k r2).map Prod.snd = (timesL entP n r).map Prod.snd) ∧ (q = true → q2 = true ∨ timesL entP k r2 = none))
      case atStart => exact ⟨k, r2, q2, rfl, rfl, Nat.le_refl _, Hrd2.out, Hg2.out, hr2l, fun h => ⟨h, rfl⟩, fun h => .inl h⟩
      case round =>
        obtain ⟨n, r, q, hgk, rfl, hn, hrd, hg, hrl, h0, h1⟩ := hrel
        have Hrd := Lib.hid hrd
        have Hg := Lib.hid hg
        have H0 := Lib.hid h0
        have H1 := Lib.hid h1
        have n0 : (0 : Int) ≤ (n : Int) := Int.natCast_nonneg _
        have n1 : (n : Int) ≤ 18446744073709551615 := by omega
        have hpl := hrd.lt
        obtain ⟨vv, T, hblk, _⟩ := id hrd
        obtain ⟨c0, c1, z0, z1⟩ := cells_of_block hblk
        have hout : (n = 0 ∨ q = true) → ∃ (r3 : List UInt8) (q3 : Bool), Rd wr w.heap.size r3 q3 ∧ W0.grownBy wr (some w.heap.size) ∧ r3.length ≤ 90000 ∧ (q3 = false → restP bs = (timesL objP m r3).map (·.1)) ∧ (q3 = true → restP bs = none) := fun hor => by
          refine ⟨r, q, Hrd.out, Hg.out, hrl, fun hq => ?_, fun hq => ?_⟩
          · obtain ⟨e1, e2⟩ := H0.out hq
            obtain ⟨e3, e4⟩ := Hbb0.out e1
            obtain rfl : n = 0 := hor.resolve_right (by rw [hq]; simp)
            exact restP_of (Ha0.out e3) e4 e2
          · rcases H1.out hq with e1 | e1
            · rcases Hbb1.out e1 with e2 | e2
              · exact restP_none1 (Ha1.out e2)
              · cases hq1 : q1 with
                | true => exact restP_none1 (Ha1.out hq1)
                | false => exact restP_none2 (Ha0.out hq1) e2
            · cases hq2 : q2 with
              | true =>
                rcases Hbb1.out hq2 with e2 | e2
                · exact restP_none1 (Ha1.out e2)
                · cases hq1 : q1 with
                  | true => exact restP_none1 (Ha1.out hq1)
                  | false => exact restP_none2 (Ha0.out hq1) e2
              | false =>
                obtain ⟨e3, e4⟩ := Hbb0.out hq2
                exact restP_none3 (Ha0.out e3) e4 e1
        have Hout := Lib.hid hout
        clear hrd hg h0 h1 hblk hout
        by_cases hnz : n = 0
        · subst hnz
          have Ho := Lib.hid (Hout.out (.inl rfl))
          go_wp2
          go_meet
          exact Ho.out
        · have hpos : (0 : Int) < (n : Int) := by omega
          have hposN : 0 < n := by omega
          have hdN : decide (0 < n) = true := decide_eq_true hposN
          cases q with
          | true =>
            have Ho := Lib.hid (Hout.out (.inr rfl))
            clear hnz
            go_wp2
            go_meet
            exact Ho.out
          | false =>
            obtain ⟨e0, e1⟩ := H0.out rfl
            have He0 := Lib.hid e0
            have He1 := Lib.hid e1
            have wn : IntKind.u64.wrap ((n : Int) - 1) = (n : Int) - 1 := by rw [IntKind.wrap_u64]; omega
            clear e0 e1 Hout H0 H1
            go_wp2_with fail
            refine bunRText_calls w.heap.size r false _ Hrd.out _ (fun s vs r5 q5 hsz hr5 a0 a1 w5 hg5 hrd5 _ => ?_)
            have Hr5 := Lib.hid hrd5
            have Hg5 := Lib.hid (grown_trans Hg.out hg5)
            have A0 : Hid (q5 = false → textL r = some (s, r5)) := Lib.hid fun hq => (a0 hq).2
            have A1 : Hid (q5 = true → textL r = none) := Lib.hid fun hq => (a1 hq).resolve_left (by simp)
            clear hg5 hrd5 a0 a1 c0 c1 z0 z1
            go_wp2_with fail
            refine Number_any w.heap.size r5 q5 _ Hr5.out _ (fun x r6 q6 hx hr6 b0 b1 w6 hg6 hrd6 => ?_)
            have hE := two_read (A := textL) (B := numberL) (C := entP) (f := Prod.mk) (bad := false) (fun _ => rfl) (fun hq => ⟨rfl, A0.out hq⟩) (fun hq => .inr (A1.out hq)) b0 b1
            have Hr6 := Lib.hid hrd6
            have Hg6 := Lib.hid (grown_trans Hg5.out hg6)
            have HE := Lib.hid hE
            clear hg6 hrd6 b0 b1 hE
            obtain ⟨n', rfl⟩ : ∃ n', n = n' + 1 := ⟨n - 1, by omega⟩
            go_wp2
            go_roundg n'
            case measure => omega
            case rel =>
              refine ⟨n', r6, q6, rfl, by go_num, by omega, Hr6.out, Hg6.out, by omega, fun hq => ?_, fun hq => ?_⟩
              · exact ⟨He0.out, He1.out.trans (times_snd (HE.out.1 hq).2)⟩
              · right
                have e2 := (HE.out.2 hq).resolve_left (by simp)
                have e3 := He1.out
                rw [timesL_none e2] at e3
                simpa using e3
    case rest =>
      obtain ⟨r3, q3, hrd3, hg3, hr3l, h0, h1⟩ := hcut
      rename World => W3
      have Hrd3 := Lib.hid hrd3
      have Hg3 := Lib.hid hg3
      have H30 := Lib.hid h0
      have H31 := Lib.hid h1
      have hz3 := hg3.size
      clear hrd3 hg3 h0 h1 Ha0 Ha1 Hbb0 Hbb1 Hg2 Hrd2
      go_upto_block 2 with fail
      go_cut [7] (fun s7 wx => ∃ (xs : List Object) (css : List (List Value)) (r : List UInt8) (q : Bool), Built rpObject W3.heap.size 40 (fun b => b < W3.heap.size) wx s7 xs css ∧ Rd wx w.heap.size r q ∧ Grew (fun b => b = w.heap.size) W3 wx ∧ (∀ o ∈ xs, Wide o) ∧ (q = false → restP bs = some xs) ∧ (q = true → restP bs = none))
      case first =>
        have hp3 : w.heap.size < W3.heap.size := Hrd3.out.lt
        go_wp2_with fail
        go_loopg [5, 7, 8, 9] m (fun gh s5 s7 s8 s9 wr => ∃ (n : Nat) (xs : List Object) (css : List (List Value)) (r : List UInt8) (q : Bool), gh = n ∧ s5 = .int .u64 (n : Int) ∧ n ≤ m ∧ Built rpObject W3.heap.size 40 (fun b => b < W3.heap.size) wr s7 xs css ∧ Rd wr w.heap.size r q ∧ Grew (fun b => b = w.heap.size) W3 wr ∧ (∀ o ∈ xs, Wide o) ∧ xs.length ≤ 90001 ∧ (q = false → xs.length + r.length ≤ 90000) ∧ (q = false → restP bs = ((timesL objP n r).map (fun y => (xs ++ y.1, y.2))).map (·.1)) ∧ (q = true → restP bs = none))
        case atStart =>
          refine ⟨m, [], [], r3, q3, rfl, rfl, Nat.le_refl _, Built.nil _ _ _ _ _ (fun _ h => h), Hrd3.out, Grew.refl _ _, (fun o h => by cases h), (by simp), (fun _ => by simpa using hr3l), (fun h => ?_), H31.out⟩
          rw [H30.out h]
          cases timesL objP m r3 <;> rfl
        case round =>
          obtain ⟨n, xs, css, r, q, hgk, rfl, hn, hbu, hrd, hgr, hwd, hxl, hql, h0, h1⟩ := hrel
          have Hrd := Lib.hid hrd
          have Hbu := Lib.hid hbu
          have Hgr := Lib.hid hgr
          have Hwd := Lib.hid hwd
          have Hql := Lib.hid hql
          have H0 := Lib.hid h0
          have H1 := Lib.hid h1
          have n0 : (0 : Int) ≤ (n : Int) := Int.natCast_nonneg _
          have n1 : (n : Int) ≤ 18446744073709551615 := by omega
          have hpl := hrd.lt
          have hz := hgr.size
          obtain ⟨vv, T, hblk, _⟩ := id hrd
          obtain ⟨c0, c1, z0, z1⟩ := cells_of_block hblk
          clear hrd hbu hgr hwd hql h0 h1 hblk
          by_cases hnz : n = 0
          · subst hnz
            have Ho : Hid (q = false → restP bs = some xs) := Lib.hid fun hq => by
              have := H0.out hq
              simpa [timesL] using this
            clear H0
            go_wp2
            go_meet
            exact ⟨xs, css, r, q, Hbu.out, Hrd.out, Hgr.out, Hwd.out, Ho.out, H1.out⟩
          · have hpos : (0 : Int) < (n : Int) := by omega
            have hposN : 0 < n := by omega
            have hdN : decide (0 < n) = true := decide_eq_true hposN
            cases q with
            | true =>
              have Ho : Hid (restP bs = none) := Lib.hid (H1.out rfl)
              clear hnz H0 H1 Hql
              go_wp2
              go_meet
              exact ⟨xs, css, r, true, Hbu.out, Hrd.out, Hgr.out, Hwd.out, (fun h => by cases h), fun _ => Ho.out⟩
            | false =>
              have H0' := Lib.hid (H0.out rfl)
              have hql := Hql.out rfl
              have wn : IntKind.u64.wrap ((n : Int) - 1) = (n : Int) - 1 := by rw [IntKind.wrap_u64]; omega
              obtain ⟨n', rfl⟩ : ∃ n', n = n' + 1 := ⟨n - 1, by omega⟩
              clear H0 H1 Hql hnz
              go_wp2_with fail
              refine bunRText_calls w.heap.size r false _ Hrd.out _ (fun s vs r5 q5 hsz hr5 a0 a1 w5 hg5 hrd5 hs5 => ?_)
              have Hr5 := Lib.hid hrd5
              have A0 : Hid (q5 = false → textL r = some (s, r5)) := Lib.hid fun hq => (a0 hq).2
              have A1 : Hid (q5 = true → textL r = none) := Lib.hid fun hq => (a1 hq).resolve_left (by simp)
              have hgr5 : Grew (fun b => b = w.heap.size) W3 w5 := Hgr.out.trans (Grew.of_grown hg5) (fun j _ e => (Option.some.inj e).symm)
              have hbu5 := Hbu.out.keep hg5.size (fun j hj hx => hg5.block j hj (fun e => hx (by have := Option.some.inj e; omega)))
              have Hgr5 := Lib.hid hgr5
              have Hbu5 := Lib.hid hbu5
              have hz5 := hgr5.size
              have hp5 := hrd5.lt
              have Hs5 := Lib.hid (hs5.more (show w.heap.size ≤ w5.heap.size by omega))
              have hsl : s.data.toList.length ≤ 90000 := by rw [show s.data.toList.length = s.size from by rw [Array.length_toList]; rfl]; omega
              clear hg5 hrd5 hs5 a0 a1 c0 c1 z0 z1 hgr5 hbu5
              go_wp2_with fail
              refine Loaded_calls vs s.data.toList _ Hs5.out (by omega) _ (fun o ho w6 u1 u2 hb6 hsg hss => ?_) (fun hno w6 B1 m1 k1 B2 m2 k2 hb6 => ?_)
              · obtain ⟨D1, d1, rfl, _, _, hsg⟩ := hsg.cases_
                obtain ⟨D2, d2, rfl, _, _, hss⟩ := hss.cases_
                have hz6 := hb6.size
                obtain ⟨W7, hW7⟩ : ∃ W7, W7 = w6.alloc (Obj.cells #[.slice D1 o.globals.length d1, .slice D2 o.sections.length d2] 40) := ⟨_, rfl⟩
                have hb7 : Below w6.heap.size w6 W7 := by subst hW7; exact bl0
                have hV7 : W7.heap[w6.heap.size]? = some (.cells #[.slice D1 o.globals.length d1, .slice D2 o.sections.length d2] 40 (0, 0)) := by subst hW7; exact heap_alloc_new _ _
                have hz7 : W7.heap.size = w6.heap.size + 1 := by subst hW7; simp
                have hb57 : Below w5.heap.size w5 W7 := hb6.trans (hb7.mono hz6)
                have hW8 := (Below.refl W7.heap.size W7).alloc (Nat.le_refl _) (Obj.cells #[.slice D1 o.globals.length d1, .slice D2 o.sections.length d2] 40)
                have Hap : Hid (Apart rpObject (fun b => b < W3.heap.size) (W7.alloc (Obj.cells #[.slice D1 o.globals.length d1, .slice D2 o.sections.length d2] 40)) u7 o [.slice D1 o.globals.length d1, .slice D2 o.sections.length d2]) := Lib.hid (by
                  have hb68 := hb7.trans (hW8.mono (by omega))
                  refine Apart.of_only (base := w5.heap.size) (object_mk ?_ ?_) (fun k hk => by omega) (fun g hg => (Hbu5.out.own.lt g hg).2)
                  · exact Rp.SL.more (hsg.below hb68 (Nat.le_refl _)) (by simp; omega)
                  · exact Rp.SL.more (hss.below hb68 (Nat.le_refl _)) (by simp; omega))
                have Hbu8 := Lib.hid ((Hbu5.out.below hb57 (Nat.le_refl _)).alloc (Obj.cells #[.slice D1 o.globals.length d1, .slice D2 o.sections.length d2] 40))
                have Hr8 := Lib.hid ((Hr5.out.other hb57).other hW8)
                have Hgr8 := Lib.hid ((Hgr5.out.on hb57).on hW8)
                have HW7 := Lib.hid hW7.symm
                have hwo : Wide o := (loadedL_back ho).2
                have Hwo := Lib.hid hwo
                have Ho := Lib.hid ho
                obtain ⟨t0, t1⟩ := cells_blk hV7
                have hlV7 := blk_lt hV7
                have hwr3 : W3.heap.size ≤ W7.heap.size := by omega
                have hzz7 : w6.heap.size < W7.heap.size := hlV7
                clear hb6 hsg hss hW7 hb7 hV7 hb57 hW8 hwo ho hz7
                go_upto_region 13 with fail
                rw [HW7.out]
                obtain ⟨A7, n7, hs7⟩ := own_slice Hbu8.out.own
                subst hs7
                go_wp2_with (at_builtin; refine wpList_append_lies _ rfl _ _ 23 rfl W3.heap.size 40 iO _ 2 48 Tryz.underlying23 hiO zO0 zO1 zO2 rfl (by decide) (.slice A7 xs.length n7) xs.length css.flatten rfl Hbu8.out.own ⟨W7.heap.size, 0, none⟩ 1 1 [.slice D1 o.globals.length d1, .slice D2 o.sections.length d2] rfl rfl ?_ ?_ (by decide) ?_ ?_ ?_ _ rfl ?_)
                any_goals (first | exact World.news_of_block (cs := #[.slice D1 o.globals.length d1, .slice D2 o.sections.length d2]) (t := 40) (fr := (0, 0)) (heap_alloc_new _ _) | (simp [Value.oneCell']; done) | (unfold maxLen; omega) | omega | (simp; done) | (simp; omega))
                intro gb cap w9 hown9 hgrow9 hat9 hlt9
                have hown : ∀ j, Value.ownBlock (.slice A7 xs.length n7) = some j → W3.heap.size ≤ j := fun j hj => (Hbu8.out.own.lt j hj).1
                have HB9 := Lib.hid (Hbu8.out.push hown9 rfl hgrow9 (by simpa using hat9) Hap.out)
                have Hgr9 := Lib.hid (Hgr8.out.trans (Grew.of_grown hgrow9) (fun j hj e => by have := hown j e; omega))
                have Hr9 := Lib.hid (rd_own Hr8.out hgrow9 hown hp3)
                have Hwd9 : Hid (∀ y ∈ xs ++ [o], Wide y) := Lib.hid fun y hy => by
                  rcases List.mem_append.1 hy with h | h
                  · exact Hwd.out y h
                  · obtain rfl : y = o := by simpa using h
                    exact Hwo.out
                have Hl9 : Hid (q5 = false → (xs ++ [o]).length + r5.length ≤ 90000) := Lib.hid fun hq => by
                  have := textL_short _ _ _ (A0.out hq)
                  rw [List.length_append]
                  simp
                  omega
                have Hs9 : Hid (q5 = false → restP bs = ((timesL objP n' r5).map (fun y => ((xs ++ [o]) ++ y.1, y.2))).map (·.1)) := Lib.hid fun hq => by
                  rw [← timesL_step (objP_some (A0.out hq) Ho.out)]
                  exact H0'.out
                have Hn9 : Hid (q5 = true → restP bs = none) := Lib.hid fun hq => by
                  have := H0'.out
                  rw [timesL_none (objP_none1 (A1.out hq))] at this
                  simpa using this
                clear hown9 hgrow9 hat9 hown
                go_wp2
                go_roundg n'
                case measure => omega
                case rel => exact ⟨n', xs ++ [o], _, r5, q5, rfl, by go_num, by omega, HB9.out, Hr9.out, Hgr9.out, Hwd9.out, by rw [List.length_append]; simp; omega, Hl9.out, Hs9.out, Hn9.out⟩
              · have hrn : restP bs = none := by
                  have := H0'.out
                  rw [timesL_none (show objP r = none from by
                    cases hq : q5 with
                    | true => exact objP_none1 (A1.out hq)
                    | false => exact objP_none (A0.out hq) hno)] at this
                  simpa using this
                have hbw : Below w.heap.size w w6 := by
                  have h1 := Grew.below (B := w.heap.size) Hgr5.out (fun k hk e => by omega) (by omega)
                  exact Hb0.out.trans ((Grew.below (B := w.heap.size) (Grew.of_grown Hg3.out) (fun k hk e => by have := Option.some.inj e; omega) (by rw [Hz0.out]; omega)).trans (h1.trans (hb6.mono (by omega))))
                have Hfin : Hid (∀ W, Below w6.heap.size w6 W → R (.returned (.tuple #[.slice none 0 0, .bool false])) W) := Lib.hid fun W hW => Hnone.out (open_none HP.out hrn) W (hbw.trans (hW.mono hbw.size))
                clear hb6 hrn hbw
                go_wp2
                exact Hfin.out _ ((Below.refl _ _).alloc (Nat.le_refl _) _)
      case rest =>
        obtain ⟨xs, css, r, q, hbu, hrd, hgr, hwd, h0, h1⟩ := hcut
        rename World => W4
        have hbw : Below w.heap.size w W4 := by
          have h1 := Grew.below (B := w.heap.size) hgr (fun k hk e => by omega) (by have := Hz0.out; omega)
          exact Hb0.out.trans ((Grew.below (B := w.heap.size) (Grew.of_grown Hg3.out) (fun k hk e => by have := Option.some.inj e; omega) (by rw [Hz0.out]; omega)).trans h1)
        have Hbw := Lib.hid hbw
        have hz4 := hbw.size
        have hpl := hrd.lt
        obtain ⟨vv, T, hblk, _⟩ := id hrd
        have hzw3 : w.heap.size ≤ W3.heap.size := by have := Hz0.out; omega
        have hSL := (hbu.SLF (b := W3.heap.size) (fun k hk => hk) (Nat.le_refl _) (Nat.le_refl W4.heap.size)).more (b' := w.heap.size) hzw3 (Nat.le_refl _)
        obtain ⟨A7, n7, rfl, _, _, hSL⟩ := hSL.cases_
        have HSLF := Lib.hid hSL
        have HSL := Lib.hid hSL.SL
        have Hblk := Lib.hid hblk
        have HSS : Hid (∀ W, Below W4.heap.size W4 W → (fun W : World => W.cell? ⟨w.heap.size, 1, none⟩ = some (.bool q) ∧ (convert 25 9 (.slice (some ⟨b, off, none⟩) bs.length c)).run Tryz.prog W = .ok (.string (strL bs)) W) W) := Lib.hid fun W hW => by
          have hb := Hbw.out.trans (hW.mono Hbw.out.size)
          exact ⟨(cells_blk ((hW.block _ hpl).trans Hblk.out)).2, conv_bytes (P := Tryz.prog) Tryz.underlying25 Tryz.underlying5 Tryz.underlying9 (H.out.up hb hb.size)⟩
        have hS0 := HSS.out W4.drew (Below.refl _ _).drew
        have hSa := HSS.out W4 (Below.refl _ _)
        have Hwd := Lib.hid hwd
        have Hno : Hid (openL bs = none → ∀ W, Below W4.heap.size W4 W → R (.returned (.tuple #[.slice none 0 0, .bool false])) W) := Lib.hid fun he W hW => Hnone.out he W (Hbw.out.trans (hW.mono Hbw.out.size))
        clear hrd hblk hbu hgr hbw hSL hwd hcv
        cases q with
        | true =>
          have Hfin := Lib.hid (Hno.out (open_none HP.out (h1 rfl)))
          clear h0 h1
          obtain ⟨c1, hcv1⟩ := hSa
          go_upto_region 16 with fail
          go_quiet (fail)
          go_wp2
          exact Hfin.out _ (below_drewN (Below.refl _ _) _)
        | false =>
          have hxs := h0 rfl
          have Hxs := Lib.hid hxs
          clear h0 h1 hxs
          obtain ⟨F, hF⟩ : ∃ F, F = bunF xs := ⟨_, rfl⟩
          have HF := Lib.hid hF
          obtain ⟨fc, fa⟩ := F
          clear hF
          by_cases hc : fc = 0
          rotate_left
          · have hq : ∀ w, (binOp .neq 27 (.agg #[.int .i64 fc, .int .i64 fa]) (.agg #[.int .i64 0, .int .i64 0])).run Tryz.prog w = .ok (.bool true) w := fun w => by
              rw [neq_Fault]
              simp [hc]
            have Hfin := Lib.hid (Hno.out (open_of HP.out Hxs.out (.inl (by rw [← HF.out]; exact hc))))
            clear hc
            obtain ⟨c1, hcv1⟩ := hSa
            go_upto_region 16 with fail
            first | go_region_law (first
              | (go_simp; go_at_call 13; with_reducible refine bunFault_calls xs _ _ (by first | with_reducible exact HSL.out | with_reducible exact HSL.out.up (Below.refl _ _).drew (Nat.le_refl _)) (by first | with_reducible exact HSh.out.up Hbw.out h0 | with_reducible exact HSh.out.up Hbw.out.drew h0) _ ?_; intro w5 hb5; rw [← HF.out]; have hbe5 : Below W4.heap.size W4 w5 := (by first | with_reducible exact hb5 | with_reducible exact below_of_drew hb5); have Hb5 := Lib.hid hbe5; clear hb5 hbe5; go_wp2_with fail)) | fail
            all_goals
              go_wp2
              exact Hfin.out _ Hb5.out
          · have hq : ∀ w, (binOp .neq 27 (.agg #[.int .i64 0, .int .i64 0]) (.agg #[.int .i64 0, .int .i64 0])).run Tryz.prog w = .ok (.bool false) w := fun w => neq_Fault 0 0 0 0 w
            have hbf := bunF_ok (l := xs) (by rw [← HF.out]; exact hc)
            have hca := HF.out.trans hbf.1
            simp only [Prod.mk.injEq] at hca
            obtain ⟨rfl, rfl⟩ := hca
            have Hok := Lib.hid hbf.2
            have hts : ∀ l : List UInt8, (strL l).toList = l := fun l => by rw [ByteArray.toList_eq]; simp [strL]
            have Hin : Hid (∀ W, Below W4.heap.size W4 W → rpObject.SL W W.heap.size xs (.slice A7 xs.length n7)) := Lib.hid fun W hW => HSL.out.up hW hW.size
            obtain ⟨c1, hcv1⟩ := hSa
            clear hc hbf
            by_cases hpk : packB xs = bs
            · have heq : ((strL (packB xs)).toList == (strL bs).toList) = true := by rw [hpk]; simp
              have Hfin : Hid (∀ W, Below W4.heap.size W4 W → R (.returned (.tuple #[.slice A7 xs.length n7, .bool true])) W) := Lib.hid fun W hW => Hsome.out xs (openL_some.2 ⟨hlen, by rw [← HF.out], hpk, Hwd.out⟩) W _ (Hbw.out.trans (hW.mono Hbw.out.size)) ((HSLF.out.below hW (Nat.le_refl _)).more (Nat.le_refl _) hW.size)
              clear hpk hts
              go_upto_region 16 with fail
              first | go_region_law (first
                | (go_simp; go_at_call 13; with_reducible refine bunFault_calls xs _ _ (by first | with_reducible exact HSL.out | with_reducible exact HSL.out.up (Below.refl _ _).drew (Nat.le_refl _)) (by first | with_reducible exact HSh.out.up Hbw.out h0 | with_reducible exact HSh.out.up Hbw.out.drew h0) _ ?_; intro w5 hb5; rw [← HF.out]; have hbe5 : Below W4.heap.size W4 w5 := (by first | with_reducible exact hb5 | with_reducible exact below_of_drew hb5); have Hb5 := Lib.hid hbe5; have hcb5 := (HSS.out w5 hbe5).2; clear hb5 hbe5; go_wp2_with fail)
                | (go_simp; go_at_call 14; with_reducible refine bunPack_calls xs _ w5 (Hin.out w5 Hb5.out) Hok.out Hwd.out _ ?_; intro w6 v6 hb6 hbuf6; have Hb6 := Lib.hid (Hb5.out.trans (hb6.mono Hb5.out.size)); have hcv6 := conv_bytes (P := Tryz.prog) Tryz.underlying25 Tryz.underlying5 Tryz.underlying9 (hbuf6.SL (Nat.le_refl _)); have hcb6 := (HSS.out w6 Hb6.out).2; clear hb6 hbuf6; go_wp2_with fail)) | fail
              all_goals
                go_wp2
                exact Hfin.out _ Hb6.out
            · have heq : ((strL (packB xs)).toList == (strL bs).toList) = false := by
                rw [hts, hts]
                simp [hpk]
              have Hfin := Lib.hid (Hno.out (open_of HP.out Hxs.out (.inr hpk)))
              clear hpk hts
              go_upto_region 16 with fail
              first | go_region_law (first
                | (go_simp; go_at_call 13; with_reducible refine bunFault_calls xs _ _ (by first | with_reducible exact HSL.out | with_reducible exact HSL.out.up (Below.refl _ _).drew (Nat.le_refl _)) (by first | with_reducible exact HSh.out.up Hbw.out h0 | with_reducible exact HSh.out.up Hbw.out.drew h0) _ ?_; intro w5 hb5; rw [← HF.out]; have hbe5 : Below W4.heap.size W4 w5 := (by first | with_reducible exact hb5 | with_reducible exact below_of_drew hb5); have Hb5 := Lib.hid hbe5; have hcb5 := (HSS.out w5 hbe5).2; clear hb5 hbe5; go_wp2_with fail)
                | (go_simp; go_at_call 14; with_reducible refine bunPack_calls xs _ w5 (Hin.out w5 Hb5.out) Hok.out Hwd.out _ ?_; intro w6 v6 hb6 hbuf6; have Hb6 := Lib.hid (Hb5.out.trans (hb6.mono Hb5.out.size)); have hcv6 := conv_bytes (P := Tryz.prog) Tryz.underlying25 Tryz.underlying5 Tryz.underlying9 (hbuf6.SL (Nat.le_refl _)); have hcb6 := (HSS.out w6 Hb6.out).2; clear hb6 hbuf6; go_wp2_with fail)) | fail
              all_goals
                go_wp2
                exact Hfin.out _ Hb6.out
end Go.Proofs.YtcakodemngchpaaGreatDoor

/- bundle.Open: objects out of a bundle's bytes, or what is wrong. -/
namespace Go.Proofs.YtcakodemngchpaaGreatDoor
open Go.RowKit
set_option linter.unusedSimpArgs false
set_option linter.unusedVariables false

/-- A fresh list of objects stays while a block below its own is written. -/
theorem slf_set {α : Type} {r : Rp α} {w : World} {b B : Nat} {xs : List α} {v : Value} (h : r.SLF w b B xs v) (p : Addr) (hp : p.block < b) (u : Value) (B' : Nat) (hB : B ≤ B') : r.SLF (w.setCell p u) b B' xs v := (h.setCell p hp u).more (Nat.le_refl _) hB

set_option maxRecDepth 100000 in
set_option maxHeartbeats 4000000 in
theorem Open_calls (v : Value) (bs : List UInt8) (w : World) (h : rpByte.SL w w.heap.size bs v) (hS : Shapes w) (R : Ending → World → Prop)
    (hR : ∀ w' v', Below w.heap.size w w' → rpObject.SLF w' w.heap.size w'.heap.size (openO bs) v' → R (.returned (.tuple #[v', (.agg #[.int .i64 (openF bs).1, .int .i64 (openF bs).2])])) w') :
    Calls Tryz.prog 9 #[v] w R := by
  have h0 := hS.1
  obtain ⟨A, c, rfl, hm, hcap, h⟩ := h.cases_
  have HR := Lib.hid hR
  have H := Lib.hid h
  have HSh := Lib.hid hS
  obtain ⟨W0, hW0⟩ : ∃ W0, W0 = w.alloc (Obj.cells #[.int .i64 0, .int .i64 0] 27) := ⟨_, rfl⟩
  have hb0 : Below w.heap.size w W0 := by subst hW0; exact bl0
  have hz0 : W0.heap.size = w.heap.size + 1 := by subst hW0; simp
  have hQ : W0.heap[w.heap.size]? = some (.cells #[.int .i64 0, .int .i64 0] 27 (0, 0)) := by subst hW0; exact heap_alloc_new _ _
  have HQ := Lib.hid hQ
  have HW := Lib.hid hW0.symm
  have Hb0 := Lib.hid hb0
  have Hz0 := Lib.hid hz0
  have hl0 : w.heap.size < W0.heap.size := by omega
  obtain ⟨d0, d1, y0, y1⟩ := cells_of_block hQ
  have HK : Hid (∀ W, Below W0.heap.size W0 W → W.heap[w.heap.size]? = some (.cells #[.int .i64 0, .int .i64 0] 27 (0, 0)) ∧ Below w.heap.size w W) := Lib.hid fun W h =>
    ⟨(h.block _ (by rw [Hz0.out]; omega)).trans HQ.out, Hb0.out.trans (h.mono (by rw [Hz0.out]; omega))⟩
  clear hR h hS hW0 hb0 hQ hz0
  by_cases hlong : 90000 < bs.length
  · have hli : (90000 : Int) < (bs.length : Int) := by omega
    obtain ⟨e1, e2, _⟩ := openF_long hlong
    have hret := HR.out
    rw [e1, e2] at hret
    have Hret := Lib.hid hret
    clear hret e1 e2 hlong
    go_enter Tryz.func9, Tryz.ntmps9
    go_wp2_with fail
    rw [HW.out]
    refine Fault_calls _ _ _ _ (fun w3 hb3 => ?_)
    obtain ⟨k1, k2⟩ := HK.out _ hb3
    have hz3 := hb3.size
    have HF3 := Lib.hid k1
    have Hk2 := Lib.hid k2
    obtain ⟨e0, e1, x0, x1⟩ := cells_of_block k1
    have hq3 : w.heap.size < w3.heap.size := by omega
    clear hb3 k1 k2 d0 d1 y0 y1
    go_wp2
    refine bodyPost_ret (v := .tuple #[.slice none 0 0, .agg #[.int .i64 2, .int .i64 0]]) (res_slF (by rfl) (by rfl) (by rfl) (blkp HF3.out)) rfl ?_
    have hb := Hk2.out
    refine Hret.out _ _ ?_ (Rp.SLF.nil _ _ _ _)
    exact bl0
  · have hli : ¬ (90000 : Int) < (bs.length : Int) := by omega
    go_enter Tryz.func9, Tryz.ntmps9
    go_wp2_with fail
    rw [HW.out]
    refine bunOpen_calls _ bs _ (H.out.up Hb0.out Hb0.out.size) (by omega) (HSh.out.up Hb0.out h0) _ (fun l hl w1 v1 hb1 hsl => ?_) (fun hno w1 hb1 => ?_)
    · obtain ⟨e1, e2⟩ := openF_some hl
      have hret := HR.out
      rw [e1, e2] at hret
      have Hret := Lib.hid hret
      obtain ⟨k1, k2⟩ := HK.out _ hb1
      have hz1 := hb1.size
      have HF1 := Lib.hid k1
      have Hk2 := Lib.hid k2
      obtain ⟨e0, e1, x0, x1⟩ := cells_of_block k1
      have hq1 : w.heap.size < w1.heap.size := by omega
      obtain ⟨A1, c1, rfl, _, _, hsl⟩ := hsl.cases_
      have Hsl := Lib.hid hsl
      clear hb1 k1 k2 d0 d1 y0 y1 hret hsl hlong
      go_wp2
      refine bodyPost_ret (v := .tuple #[.slice A1 l.length c1, .agg #[.int .i64 0, .int .i64 0]]) (res_slF (by rfl) (by rfl) (by rfl) (blkp HF1.out)) rfl ?_
      have hb := Hk2.out
      refine Hret.out _ _ ?_ ?_
      · exact bl0
      · refine Rp.SLF.more ?_ (Nat.le_of_lt hl0) (Nat.le_refl _)
        exact slf_set (slf_set Hsl.out ⟨w.heap.size, 0, none⟩ hl0 _ w1.heap.size (Nat.le_refl _)) ⟨w.heap.size, 1, none⟩ hl0 _ _ (by simp [World.setCell])
    · obtain ⟨e1, e2⟩ := openF_none hlong hno
      have hret := HR.out
      rw [e1, e2] at hret
      have Hret := Lib.hid hret
      have Hb1 := Lib.hid hb1
      have hz1 := hb1.size
      clear hret hb1 hlong hno e1 e2
      go_wp2_with fail
      refine Fault_calls _ _ _ _ (fun w3 hb3 => ?_)
      obtain ⟨k1, k2⟩ := HK.out _ (Hb1.out.trans (hb3.mono hz1))
      have hz3 := hb3.size
      have HF3 := Lib.hid k1
      have Hk2 := Lib.hid k2
      obtain ⟨e0, e1, x0, x1⟩ := cells_of_block k1
      have hq3 : w.heap.size < w3.heap.size := by omega
      clear hb3 k1 k2 d0 d1 y0 y1
      go_wp2
      refine bodyPost_ret (v := .tuple #[.slice none 0 0, .agg #[.int .i64 1, .int .i64 0]]) (res_slF (by rfl) (by rfl) (by rfl) (blkp HF3.out)) rfl ?_
      have hb := Hk2.out
      refine Hret.out _ _ ?_ (Rp.SLF.nil _ _ _ _)
      exact bl0
end Go.Proofs.YtcakodemngchpaaGreatDoor
