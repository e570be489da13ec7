/- code.Check. -/
import Derived.Test.YtdanebboiekieaaGreatDoorQ01
import Derived.Test.YtdanebboiekieaaGreatDoorRows
import Derived.IntWalk
import Derived.Outline
import Derived.Deep.LoopGhost
import Derived.Deep.CutBlock
import Derived.Deep.DeepCutAuto
import Derived.Maps.AppendAt
import Derived.Test.YtdanebboiekieaaGreatDoorQ12
namespace Go.Proofs.YtdanebboiekieaaGreatDoor
open Go.RowKit
set_option linter.unusedSimpArgs false
set_option linter.unusedVariables false

theorem one_str (xs : List ByteArray) : ∀ u ∈ xs.flatMap strCells, u.oneCell' = true := by
 intro u hu
 obtain ⟨x, _, hx⟩ := List.mem_flatMap.1 hu
 simp [strCells] at hx
 subst hx
 rfl
theorem app_str {ops : Array Oper} {rest : List Oper} {o : Oper} {a : Act} {w : World} {Q : Exit → Act → World → Prop} (hgd : o.guard = none) (s x : Operand) (ho : o.op = .call { callee := .builtin .append, args := #[s, x], argTypes := #[85, 85] })
 {base : Nat} {v : Value} {xs : List ByteArray} (hs : a.eval s = v) (hown : w.ownsRow base 9 1 v xs.length (xs.flatMap strCells)) (g : Nat) (y : ByteArray) (hx : a.eval x = .slice (some ⟨g, 0, none⟩) 1 1) (hg : w.heap[g]? = some (.cells #[.string y] 9 (0, 0))) (hfew : xs.length ≤ 100) (hbase : base ≤ w.heap.size)
 (h : ∀ v' w', w'.ownsRow base 9 1 v' (xs ++ [y]).length ((xs ++ [y]).flatMap strCells) → w.grownBy w' v.ownBlock → (v'.ownBlock = v.ownBlock ∨ v'.ownBlock = some w.heap.size) → wpList Tryz.prog ops Q rest (a.put o.dst v') w') : wpList Tryz.prog ops Q (o :: rest) a w := by
 obtain ⟨i0, hi0, hz0, hz1, hz2⟩ := info_parts info_string
 refine wpList_append_own_at w hgd s x 85 ho base 9 i0 _ 1 16 Tryz.underlying85 hi0 hz0 hz1 hz2 rfl (by decide) v xs.length (xs.flatMap strCells) hs hown ⟨g, 0, none⟩ 1 1 ([y].flatMap strCells) hx rfl (fun j u hj => ?_) (one_str [y]) (by unfold maxLen; omega) (by omega) hbase (fun v' w' h1 h2 _ h3 => h v' w' ?_ h2 h3)
 ·match j, hj with
  | 0, hj =>
    have e : u = .string y := by
     have : (some (Value.string y)) = some u := hj
     exact (Option.some.inj this).symm
    rw [e, Addr.add_lit]
    simp [World.cell?, hg]
  | j + 1, hj => simp [strCells] at hj
 ·rw [List.length_append, List.flatMap_append]
  exact h1
def mainIdx (l : List UFun) : Option Nat := l.findIdx? fun f => decide (f.name = mainU)
def idxZ : Option Nat → Int
 | none => -1
 | some k => (k : Int)
theorem mainIdx_at {l : List UFun} {k : Nat} (h : k < l.length) (hn : l[k].name = mainU) (hno : ∀ j (hj : j < l.length), j < k → l[j].name ≠ mainU) : mainIdx l = some k := by
 unfold mainIdx
 rw [List.findIdx?_eq_some_iff_getElem]
 exact ⟨h, by simpa using hn, fun j hj => by simpa using hno j (by omega) hj⟩
theorem mainIdx_none {l : List UFun} (hno : ∀ j (hj : j < l.length), l[j].name ≠ mainU) : mainIdx l = none := by
 unfold mainIdx
 rw [List.findIdx?_eq_none_iff]
 intro f hf
 obtain ⟨j, hj, rfl⟩ := List.mem_iff_getElem.1 hf
 simpa using hno j hj
set_option maxHeartbeats 1000000 in
theorem isMain_calls (nm : ByteArray) (p r : Int) (A : Option Addr) (n c : Nat) (w : World) (R : Ending → World → Prop) (hR : ∀ w', Below w.heap.size w w' → R (.returned (.bool (decide (nm = mainU)))) w') :
 Calls Tryz.prog 127 #[.agg #[.string nm, .int .i64 p, .int .i64 r, .slice A n c]] w R := by
 have HR := Lib.hid hR
 clear hR
 have hne : (nm.toList == [109, 97, 105, 110]) = decide (nm = mainU) := by
  have h := name_eq nm mainU
  rw [show mainU.toList = [109, 97, 105, 110] from by decide +kernel] at h
  exact h
 rw [← hne] at HR
 clear hne
 go_enter Tryz.func127, Tryz.ntmps127
 go_wp2
 exact HR.out _ bl0
set_option maxHeartbeats 2000000 in
theorem idxMain_calls (l : List UFun) (v : Value) (w : World) (h : rpFun.SL w w.heap.size l v) (R : Ending → World → Prop)
 (hR : ∀ w', Below w.heap.size w w' → R (.returned (.int .i64 (idxZ (mainIdx l)))) w') : Calls Tryz.prog 126 #[v, .func (.func 127) #[] #[]] w R := by
 obtain ⟨A, c, rfl, hm, hcap, h⟩ := h.cases_
 have HR := Lib.hid hR
 have H := Lib.hid h
 clear hR h
 go_enter Tryz.func126, Tryz.ntmps126
 go_wp2
 go_loopg [5, 8] l.length (fun g s5 i wr => ∃ k : Nat, k ≤ l.length ∧ g = l.length - k ∧ i = .int .i64 k ∧ Hid (∀ j (hj : j < l.length), j < k → l[j].name ≠ mainU) ∧ Hid (Below w.heap.size w wr))
 case atStart => exact ⟨0, Nat.zero_le _, rfl, rfl, Lib.hid (fun j _ h => absurd h (Nat.not_lt_zero j)), Lib.hid (Below.refl _ _)⟩
 case round =>
  obtain ⟨k, hk, rfl, rfl, Hno, Hb⟩ := hrel
  have i1 : (0 : Int) ≤ (k : Int) := Int.natCast_nonneg _
  have hz := Hb.out.size
  by_cases hlt : k < l.length
  ·obtain ⟨b, off, v, rfl, hb, hv, q0, q1, q2, q3⟩ := H.out.fun_at hlt
   obtain ⟨Av, cv, rfl, _, _, hv⟩ := hv.cases_
   have i2 : (k : Int) < (l.length : Int) := by omega
   have p0 := (Hb.out.cell (p := ⟨b, off + k * 4, none⟩) hb).trans q0
   have p1 := (Hb.out.cell (p := ⟨b, off + k * 4 + 1, none⟩) hb).trans q1
   have p2 := (Hb.out.cell (p := ⟨b, off + k * 4 + 2, none⟩) hb).trans q2
   have p3 := (Hb.out.cell (p := ⟨b, off + k * 4 + 3, none⟩) hb).trans q3
   have lb : b < wr.heap.size := by omega
   have Hyes : Hid (l[k].name = mainU → mainIdx l = some k) := Lib.hid fun h => mainIdx_at hlt h Hno.out
   have Hnx : Hid (l[k].name ≠ mainU → ∀ j (hj : j < l.length), j < k + 1 → l[j].name ≠ mainU) := Lib.hid fun h j hj hjk => by
    rcases Nat.lt_or_ge j k with h1 | h1
    ·exact Hno.out j hj h1
    ·obtain rfl : j = k := by omega
     exact h
   generalize l[k] = x at *
   clear hv q0 q1 q2 q3
   go_wp2_with fail
   refine isMain_calls _ _ _ _ _ _ _ _ (fun w1 hb1 => ?_)
   have Hb1 := Lib.hid (Hb.out.trans (hb1.mono hz))
   clear hb1
   by_cases hx : x.name = mainU
   ·have Hfin := Lib.hid (HR.out _ Hb1.out)
    rw [Hyes.out hx] at Hfin
    have hd : decide (x.name = mainU) = true := decide_eq_true hx
    rw [hd]
    clear hx HR Hyes Hnx hd
    go_wp2
    exact Hfin.out
   ·have hd : decide (x.name = mainU) = false := decide_eq_false hx
    rw [hd]
    have Hn2 := Lib.hid (Hnx.out hx)
    clear hx Hyes Hnx hd
    go_wp2
    go_roundg (l.length - (k + 1))
    case measure => omega
    case rel => exact ⟨k + 1, hlt, rfl, by go_num, Hn2, Hb1⟩
  ·obtain rfl : k = l.length := by omega
   have Hfin := Lib.hid (HR.out _ Hb.out)
   rw [mainIdx_none (fun j hj => Hno.out j hj hj)] at Hfin
   have i2 : ¬ ((l.length : Int) < (l.length : Int)) := by omega
   clear HR
   go_wp2
   exact Hfin.out
end Go.Proofs.YtdanebboiekieaaGreatDoor
