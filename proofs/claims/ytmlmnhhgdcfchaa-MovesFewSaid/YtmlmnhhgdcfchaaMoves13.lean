/- The rings of moves, counted. -/
import Derived.Test.YtmlmnhhgdcfchaaLib
import Derived.Test.YtmlmnhhgdcfchaaRows
import Derived.IntWalk
import Derived.Deep.LoopGhost
import Derived.Test.YtmlmnhhgdcfchaaMovesPlain6
import Derived.Test.YtmlmnhhgdcfchaaMoves10
namespace Go.Proofs.Ytmlmnhhgdcfchaa
open Go.RowKit
set_option linter.unusedSimpArgs false
set_option linter.unusedVariables false

theorem ringOk_self (f : Int → Option Int) (t : Int) (n : Nat) : ringOk f t n t = true := by cases n <;> simp [ringOk]
def ringP (l : List Move) (m : Move) : Bool := m.to != m.src && ringB l m
def srcAt (i : Int) (acc : Int) (m : Move) : Int := if m.to = i then m.src else acc
theorem srcAt_not (i : Int) : ∀ (l : List Move) (acc : Int), (∀ m ∈ l, m.to ≠ i) → l.foldl (srcAt i) acc = acc
  | [], _, _ => rfl
  | m :: l, acc, h => by
    rw [List.foldl_cons, srcAt, if_neg (h m (by simp))]
    exact srcAt_not i l acc (fun o ho => h o (by simp [ho]))
theorem srcAt_all (i : Int) : ∀ (l : List Move) (acc : Int), (l.map Move.to).Nodup → l.foldl (srcAt i) acc = (fromOf l i).getD acc
  | [], _, _ => rfl
  | m :: l, acc, h => by
    rw [List.map_cons, List.nodup_cons] at h
    rw [List.foldl_cons, srcAt, fromOf, List.find?_cons]
    by_cases hm : m.to = i
    · rw [if_pos hm, srcAt_not i l _ (fun o ho e => h.1 (by rw [hm, ← e]; exact List.mem_map.2 ⟨o, ho, rfl⟩)), show (m.to == i) = true from by simp [hm]]
      rfl
    · rw [if_neg hm, srcAt_all i l acc h.2, show (m.to == i) = false from by simp [hm]]
      rfl
theorem filter_snocP {l : List Move} {k : Nat} {m : Move} (h : l[k]? = some m) : ((l.take (k + 1)).filter (ringP l)).length = ((l.take k).filter (ringP l)).length + (if ringP l m = true then 1 else 0) := by
  rw [filter_snoc h, List.length_append]
  split <;> rfl

set_option maxRecDepth 100000 in
set_option maxHeartbeats 1000000 in
theorem rings_calls (v : Value) (l : List Move) (w : World) (h : rpMove.SL w w.heap.size l v) (ht : Ten l) (R : Ending → World → Prop)
    (hR : ∀ w', Below w.heap.size w w' → R (.returned (.int .i64 (ringsL l))) w') :
    Calls Try.prog 22 #[v] w R := by
  have HR := Lib.hid hR
  have Ht := Lib.hid ht
  have hlen := ten_length ht
  clear hR ht
  go_enter Try.func22, Try.ntmps22
  obtain ⟨A1, c1, rfl, hm1, hcap1, hs⟩ := h.cases_
  clear h
  go_wp2
  go_loopg [3, 4] l.length (fun g n i wx => ∃ k : Nat, k ≤ l.length ∧ g = l.length - k ∧ i = .int .i64 k ∧ n = .int .i64 (((l.take k).filter (ringP l)).length : Nat) ∧ ∃ d, wx = w.drewN d)
  case atStart => exact ⟨0, Nat.zero_le _, rfl, rfl, rfl, 0, rfl⟩
  case round =>
    rename World => wx
    obtain ⟨k, hk, rfl, rfl, rfl, d, rfl⟩ := hrel
    by_cases hlt : k < l.length
    · obtain ⟨b, off, m, rfl, hb, e, p0, p1⟩ := hs.move_at hlt
      have i1 : (0 : Int) ≤ (k : Int) := Int.natCast_nonneg _
      have i2 : (k : Int) < (l.length : Int) := by omega
      have Hf := Lib.hid (filter_snocP e)
      have hr := Ht.out.2 m (List.mem_of_getElem? e)
      have hcn : ((l.take k).filter (ringP l)).length ≤ 20 := Nat.le_trans (List.length_filter_le _ _) (by simp; omega)
      generalize ((l.take k).filter (ringP l)).length = F at *
      obtain ⟨r1, r2, r3, r4⟩ := hr
      clear e
      by_cases hms : m.to = m.src
      · have hP : ringP l m = false := by simp [ringP, hms]
        rw [hP, if_neg (by simp)] at Hf
        have HP := Lib.hid hP
        have hmb : (m.to == m.src) = true := by simp [hms]
        have Hms := Lib.hid hms
        clear hP hms
        go_wp2_with fail
        go_quiet (fail)
        go_wp2
        go_roundg (l.length - (k + 1))
        case measure => omega
        case rel => exact ⟨k + 1, by omega, rfl, by go_num, by rw [Hf.out]; rfl, _, rfl⟩
      · have hP : ringP l m = ringB l m := by simp [ringP, hms]
        rw [hP] at Hf
        have hmb : (m.to == m.src) = false := by simp [hms]
        clear hP hms
        go_wp2_with fail
        go_quiet (fail)
        go_wp2
        go_loopg [5, 6, 7] l.length (fun g a q j wy => ∃ (x : Int) (y : Bool) (i : Nat), i ≤ l.length ∧ g = l.length - i ∧ a = .int .i64 x ∧ q = .bool y ∧ j = .int .i64 i ∧ 0 ≤ x ∧ x ≤ 9 ∧ (y && ringOk (fromOf l) m.to (l.length - i) x) = ringB l m ∧ ∃ d, wy = w.drewN d)
        case atStart => exact ⟨m.src, true, 0, Nat.zero_le _, rfl, rfl, rfl, rfl, r3, r4, rfl, _, rfl⟩
        case round =>
          rename World => wy
          obtain ⟨x, y, i, hi, rfl, rfl, rfl, rfl, x0, x1, hV, d2, rfl⟩ := hrel
          by_cases hxt : x = m.to
          · have hy : ringB l m = y := by rw [← hV, hxt, ringOk_self, Bool.and_true]
            rw [hy] at Hf
            have hxb : (x == m.to) = true := by simp [hxt]
            have hxn : (x != m.to) = false := by simp [hxt]
            have Hxt := Lib.hid hxt
            have i3 : (0 : Int) ≤ (i : Int) := Int.natCast_nonneg _
            have Hi := Lib.hid hi
            clear hV hy hxt hi
            by_cases hil : (i : Int) < (l.length : Int)
            · cases y
              · go_wp2
                go_roundg (l.length - (k + 1))
                case measure => omega
                case rel => exact ⟨k + 1, by omega, rfl, by go_num, by rw [Hf.out]; rfl, _, rfl⟩
              · go_wp2
                go_roundg (l.length - (k + 1))
                case measure => omega
                case rel => exact ⟨k + 1, by omega, rfl, by go_num, by rw [Hf.out]; rfl, _, rfl⟩
            · cases y
              · go_wp2
                go_roundg (l.length - (k + 1))
                case measure => omega
                case rel => exact ⟨k + 1, by omega, rfl, by go_num, by rw [Hf.out]; rfl, _, rfl⟩
              · go_wp2
                go_roundg (l.length - (k + 1))
                case measure => omega
                case rel => exact ⟨k + 1, by omega, rfl, by go_num, by rw [Hf.out]; rfl, _, rfl⟩
          · have hxb : (x == m.to) = false := by simp [hxt]
            have hxn : (x != m.to) = true := by simp [hxt]
            by_cases hil : i < l.length
            · have i3 : (0 : Int) ≤ (i : Int) := Int.natCast_nonneg _
              have i4 : (i : Int) < (l.length : Int) := by omega
              obtain ⟨z, hz, hV'⟩ : ∃ z : Bool, (if x < m.to then false else y) = z ∧ ringB l m = (match fromOf l x with | none => false | some b => z && ringOk (fromOf l) m.to (l.length - (i + 1)) b) := by
                refine ⟨_, rfl, ?_⟩
                rw [← hV, show l.length - i = (l.length - (i + 1)) + 1 by omega, ringOk, if_neg hxt]
                by_cases hxl : x < m.to
                · rw [if_pos hxl, if_pos hxl]
                  cases fromOf l x <;> simp
                · rw [if_neg hxl, if_neg hxl]
                  cases fromOf l x <;> simp
              have HV := Lib.hid hV'
              have Hz := Lib.hid hz
              clear hV hV' hz hxt
              by_cases hxl : x < m.to
              · have Hz := Lib.hid (show false = z by rw [← Hz.out, if_pos hxl])
                have Hzz : Hid (false = z) := Hz.out
                clear Hz
                go_wp2
                go_loopg [8, 9] l.length (fun g q j wz => ∃ i : Nat, i ≤ l.length ∧ g = l.length - i ∧ j = .int .i64 i ∧ q = .int .i64 ((l.take i).foldl (srcAt x) (-1)) ∧ wz = w.drewN d2)
                case atStart => exact ⟨0, Nat.zero_le _, rfl, rfl, rfl, rfl⟩
                case round =>
                  rename World => wz
                  obtain ⟨j, hj, rfl, rfl, rfl, rfl⟩ := hrel
                  by_cases hjl : j < l.length
                  · obtain ⟨b', off', mj, hA, _, ej, q0, q1⟩ := hs.move_at hjl
                    injection hA with hA
                    injection hA with hA1 hA2
                    subst hA1 hA2
                    have hf := Lib.hid (foldl_take (srcAt x) (-1) ej)
                    generalize (l.take j).foldl (srcAt x) (-1) = acc at *
                    have i5 : (0 : Int) ≤ (j : Int) := Int.natCast_nonneg _
                    have i6 : (j : Int) < (l.length : Int) := by omega
                    clear ej
                    by_cases hmx : mj.to = x
                    · have hmb2 : (mj.to == x) = true := by simp [hmx]
                      have Hmx := Lib.hid hmx
                      clear hmx
                      go_wp2
                      go_roundg (l.length - (j + 1))
                      case measure => omega
                      case rel => exact ⟨j + 1, by omega, rfl, by go_num, by rw [hf.out, srcAt, if_pos Hmx.out], rfl⟩
                    · have hmb2 : (mj.to == x) = false := by simp [hmx]
                      go_wp2
                      go_roundg (l.length - (j + 1))
                      case measure => omega
                      case rel => exact ⟨j + 1, by omega, rfl, by go_num, by rw [hf.out, srcAt, if_neg hmx], rfl⟩
                  · obtain rfl : j = l.length := by omega
                    rw [List.take_length, srcAt_all _ _ _ Ht.out.1]
                    cases hfx : fromOf l x with
                    | none =>
                      have hy := HV.out
                      rw [hfx] at hy
                      have hy : ringB l m = false := hy
                      rw [hy] at Hf
                      clear hy hfx HV
                      go_wp2
                      go_roundg (l.length - (k + 1))
                      case measure => omega
                      case rel => exact ⟨k + 1, by omega, rfl, by go_num, by rw [Hf.out]; rfl, _, rfl⟩
                    | some u =>
                      have hy := HV.out
                      rw [hfx] at hy
                      have Hy := Lib.hid hy.symm
                      obtain ⟨mm, hmm, _, hu⟩ := fromOf_mem hfx
                      have hru := Ht.out.2 mm hmm
                      rw [hu] at hru
                      obtain ⟨_, _, u0, u1⟩ := hru
                      clear hy hfx HV hu hmm
                      go_wp2
                      go_roundg (l.length - (i + 1))
                      case measure => omega
                      case rel => exact ⟨u, false, i + 1, by omega, rfl, rfl, rfl, by go_num, u0, u1, by rw [Hzz.out]; exact Hy.out, _, rfl⟩
              · have Hz := Lib.hid (show y = z by rw [← Hz.out, if_neg hxl])
                have hxl2 : m.to ≤ x := by omega
                have Hzz : Hid (y = z) := Hz.out
                clear Hz
                go_wp2
                go_loopg [8, 9] l.length (fun g q j wz => ∃ i : Nat, i ≤ l.length ∧ g = l.length - i ∧ j = .int .i64 i ∧ q = .int .i64 ((l.take i).foldl (srcAt x) (-1)) ∧ wz = w.drewN d2)
                case atStart => exact ⟨0, Nat.zero_le _, rfl, rfl, rfl, rfl⟩
                case round =>
                  rename World => wz
                  obtain ⟨j, hj, rfl, rfl, rfl, rfl⟩ := hrel
                  by_cases hjl : j < l.length
                  · obtain ⟨b', off', mj, hA, _, ej, q0, q1⟩ := hs.move_at hjl
                    injection hA with hA
                    injection hA with hA1 hA2
                    subst hA1 hA2
                    have hf := Lib.hid (foldl_take (srcAt x) (-1) ej)
                    generalize (l.take j).foldl (srcAt x) (-1) = acc at *
                    have i5 : (0 : Int) ≤ (j : Int) := Int.natCast_nonneg _
                    have i6 : (j : Int) < (l.length : Int) := by omega
                    clear ej
                    by_cases hmx : mj.to = x
                    · have hmb2 : (mj.to == x) = true := by simp [hmx]
                      have Hmx := Lib.hid hmx
                      clear hmx
                      go_wp2
                      go_roundg (l.length - (j + 1))
                      case measure => omega
                      case rel => exact ⟨j + 1, by omega, rfl, by go_num, by rw [hf.out, srcAt, if_pos Hmx.out], rfl⟩
                    · have hmb2 : (mj.to == x) = false := by simp [hmx]
                      go_wp2
                      go_roundg (l.length - (j + 1))
                      case measure => omega
                      case rel => exact ⟨j + 1, by omega, rfl, by go_num, by rw [hf.out, srcAt, if_neg hmx], rfl⟩
                  · obtain rfl : j = l.length := by omega
                    rw [List.take_length, srcAt_all _ _ _ Ht.out.1]
                    cases hfx : fromOf l x with
                    | none =>
                      have hy := HV.out
                      rw [hfx] at hy
                      have hy : ringB l m = false := hy
                      rw [hy] at Hf
                      clear hy hfx HV
                      go_wp2
                      go_roundg (l.length - (k + 1))
                      case measure => omega
                      case rel => exact ⟨k + 1, by omega, rfl, by go_num, by rw [Hf.out]; rfl, _, rfl⟩
                    | some u =>
                      have hy := HV.out
                      rw [hfx] at hy
                      have Hy := Lib.hid hy.symm
                      obtain ⟨mm, hmm, _, hu⟩ := fromOf_mem hfx
                      have hru := Ht.out.2 mm hmm
                      rw [hu] at hru
                      obtain ⟨_, _, u0, u1⟩ := hru
                      clear hy hfx HV hu hmm
                      go_wp2
                      go_roundg (l.length - (i + 1))
                      case measure => omega
                      case rel => exact ⟨u, y, i + 1, by omega, rfl, rfl, rfl, by go_num, u0, u1, by rw [Hzz.out]; exact Hy.out, _, rfl⟩
            · obtain rfl : i = l.length := by omega
              have hy : ringB l m = false := by
                rw [← hV, Nat.sub_self, ringOk, hxb, Bool.and_false]
              rw [hy] at Hf
              clear hV hy hxt
              go_wp2
              go_roundg (l.length - (k + 1))
              case measure => omega
              case rel => exact ⟨k + 1, by omega, rfl, by go_num, by rw [Hf.out]; rfl, _, rfl⟩
    · obtain rfl : k = l.length := by omega
      rw [List.take_length]
      go_wp2
      exact HR.out _ (below_drewN (Below.refl _ _) _)
end Go.Proofs.Ytmlmnhhgdcfchaa
