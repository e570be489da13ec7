/- Which registers an instruction speaks of: pointers to its fields. -/
import Derived.Test.YtkodcoianakjoaaDoorLib
import Derived.Test.YtkodcoianakjoaaDoorRows
import Derived.IntWalk
import Derived.Deep.LoopGhost
import Derived.Test.YtkodcoianakjoaaDoorRead4
namespace Go.Proofs.YtkodcoianakjoaaDoor
open Go.RowKit
set_option linter.unusedSimpArgs false
set_option linter.unusedVariables false

def regOffs (s : Shape) : List Nat := (if s.d then [1] else []) ++ (if s.a then [2] else []) ++ (if s.b then [3] else [])
def ptrM (M : Nat) (k : Nat) : Value := .pointer (some ⟨M, k, none⟩)
theorem info_ptr : (Tryd.prog.info? 141).map (fun i => (i.zero, i.size, i.bytes)) = some (some (.pointer none), 1, 8) := by kernel_rfl
def regsTo (s : Shape) (k : Nat) : List Nat := (if s.d ∧ 0 < k then [1] else []) ++ (if s.a ∧ 1 < k then [2] else []) ++ (if s.b ∧ 2 < k then [3] else [])
def usedAt (s : Shape) (k : Nat) : Bool := if k = 0 then s.d else if k = 1 then s.a else s.b
theorem regsTo_step (s : Shape) (k : Nat) (h : k < 3) : regsTo s (k + 1) = regsTo s k ++ (if usedAt s k then [k + 1] else []) := by
  rcases (show k = 0 ∨ k = 1 ∨ k = 2 from by omega) with rfl | rfl | rfl <;> cases hd : s.d <;> cases ha : s.a <;> cases hb : s.b <;> simp [regsTo, usedAt, hd, ha, hb]
theorem regsTo_end (s : Shape) : regsTo s 3 = regOffs s := by simp [regsTo, regOffs]
theorem regsTo_len (s : Shape) (k : Nat) : (regsTo s k).length ≤ 3 := by
  unfold regsTo
  cases s.d <;> cases s.a <;> cases s.b <;> simp <;> (repeat' split) <;> simp

theorem idx3_0 (x y z : Value) (p q r : Value) (w : World) : (Instr.index 149 (.agg #[x, p, y, q, z, r]) (.int .i64 0)).run Tryd.prog w = .ok (.agg #[x, p]) w := by
  have h : Tryd.prog.underlying 149 = some (.array 3 148) := Tryd.underlying149
  simp [Instr.index, run_underlying h, asIntOf, go_sem]
theorem idx3_1 (x y z : Value) (p q r : Value) (w : World) : (Instr.index 149 (.agg #[x, p, y, q, z, r]) (.int .i64 1)).run Tryd.prog w = .ok (.agg #[y, q]) w := by
  have h : Tryd.prog.underlying 149 = some (.array 3 148) := Tryd.underlying149
  simp [Instr.index, run_underlying h, asIntOf, go_sem]
theorem idx3_2 (x y z : Value) (p q r : Value) (w : World) : (Instr.index 149 (.agg #[x, p, y, q, z, r]) (.int .i64 2)).run Tryd.prog w = .ok (.agg #[z, r]) w := by
  have h : Tryd.prog.underlying 149 = some (.array 3 148) := Tryd.underlying149
  simp [Instr.index, run_underlying h, asIntOf, go_sem]

set_option maxRecDepth 100000 in
set_option maxHeartbeats 4000000 in
theorem registers_calls (s : Shape) (M : Nat) (w : World) (hM : M < w.heap.size) (R : Ending → World → Prop)
    (hR : ∀ w' v, Below w.heap.size w w' → w'.ownsRow w.heap.size 141 1 v (regOffs s).length ((regOffs s).map (ptrM M)) → R (.returned v) w') :
    Calls Tryd.prog 102 #[.agg #[.bool s.d, .bool s.a, .bool s.b, .int .i64 s.n], .pointer (some ⟨M, 0, none⟩)] w R := by
  obtain ⟨i0, hi, hz0, hz1, hz2⟩ := info_parts info_ptr
  have HR := Lib.hid hR
  clear hR
  obtain ⟨sd, sa, sb, sn⟩ := s
  obtain ⟨S, hS⟩ : ∃ S : Shape, S = ⟨sd, sa, sb, sn⟩ := ⟨_, rfl⟩
  rw [← hS] at HR
  have HS := Lib.hid hS
  clear hS
  have ix0 := idx3_0
  have ix1 := idx3_1
  have ix2 := idx3_2
  cases sd <;> cases sa <;> cases sb
  all_goals
    go_enter Tryd.func102, Tryd.ntmps102
    go_wp2
    go_quiet (fail)
    go_wp2
    go_loopg [5, 27] 3 (fun g v i wr => ∃ k : Nat, k ≤ 3 ∧ g = 3 - k ∧ i = .int .i64 k ∧ wr.ownsRow w.heap.size 141 1 v (regsTo S k).length ((regsTo S k).map (ptrM M)) ∧ Below w.heap.size w wr)
    case atStart => exact ⟨0, by omega, rfl, rfl, by rw [show ∀ s, regsTo s 0 = [] from fun s => by simp [regsTo]]; exact World.ownsRow_nil _ _ _ _, (by repeat (first | exact Below.refl _ _ | assumption | refine below_drewN ?_ _ | refine Below.drew ?_ | refine Below.setCell ?_ (by first | omega | (simp; done) | (simp; omega)) _ | refine Below.alloc ?_ (by first | omega | (simp; done) | (simp; omega)) _ | refine below_step (by assumption) ?_ (by first | omega | (simp; done) | (simp; omega))))⟩
    case round =>
      obtain ⟨k, hk, rfl, rfl, hown, hbel⟩ := hrel
      have Hbel := Lib.hid hbel
      have hwz := hbel.size
      clear hbel
      rcases (show k = 0 ∨ k = 1 ∨ k = 2 ∨ k = 3 from by omega) with rfl | rfl | rfl | rfl
      · have Hst := Lib.hid (regsTo_step S 0 (by omega))
        have hle := regsTo_len S 0
        generalize regsTo S 0 = L at *
        cases hu : usedAt S 0
        · first
          | (rw [HS.out] at hu; simp [usedAt] at hu; done)
          | have e : regsTo S (0 + 1) = L := by rw [Hst.out, hu]; simp
            have E := Lib.hid e
            have Hown := Lib.hid hown
            clear e Hst hown hu
            go_wp2
            go_roundg (3 - (0 + 1))
            case measure => omega
            case rel => exact ⟨0 + 1, by omega, rfl, rfl, by rw [E.out]; exact Hown.out.alloc _, Hbel.out.alloc (by first | omega | (simp; done) | (simp; omega)) _⟩
        · first
          | (rw [HS.out] at hu; simp [usedAt] at hu; done)
          | have e : regsTo S (0 + 1) = L ++ [0 + 1] := by rw [Hst.out, hu]; simp
            have E := Lib.hid e
            clear e Hst hu
            obtain ⟨A5, c5, rfl⟩ := own_slice hown
            go_wp2_with (at_builtin; refine wpList_append_own _ rfl _ _ 138 rfl w.heap.size 141 i0 _ 1 8 Tryd.underlying138 hi hz0 hz1 hz2 rfl (by decide) (.slice A5 L.length c5) L.length (L.map (ptrM M)) rfl ((hown.alloc _).alloc _) ⟨wr.heap.size + 1, 0, none⟩ 1 1 [.pointer (some ⟨M, 0 + 1, none⟩)] rfl rfl ?_ ?_ ?_ ?_ ?_ ?_)
            any_goals first | (intro j u hj; match j, hj with | 0, hj => simp at hj; subst hj; simp [Addr.add]) | (simp [Value.oneCell']; done) | (unfold maxLen; omega) | omega | (simp; done) | (simp; omega)
            intro v' w2 hown1 hgrow _
            have hbel1 := ((Hbel.out.alloc hwz (Obj.cells #[.bool true, .pointer (some ⟨M, 0 + 1, none⟩)] 148)).alloc (by first | omega | (simp; done) | (simp; omega)) (Obj.cells #[.pointer (some ⟨M, 0 + 1, none⟩)] 141)).grown hgrow (by simp; omega) (fun k hk => (hown.lt k hk).1)
            have H1 := Lib.hid (And.intro hown1 hbel1)
            clear hown1 hbel1 hown hgrow
            go_wp2
            go_roundg (3 - (0 + 1))
            case measure => omega
            case rel => exact ⟨0 + 1, by omega, rfl, rfl, by rw [E.out]; simpa [ptrM] using H1.out.1, H1.out.2⟩
      · have Hst := Lib.hid (regsTo_step S 1 (by omega))
        have hle := regsTo_len S 1
        generalize regsTo S 1 = L at *
        cases hu : usedAt S 1
        · first
          | (rw [HS.out] at hu; simp [usedAt] at hu; done)
          | have e : regsTo S (1 + 1) = L := by rw [Hst.out, hu]; simp
            have E := Lib.hid e
            have Hown := Lib.hid hown
            clear e Hst hown hu
            go_wp2
            go_roundg (3 - (1 + 1))
            case measure => omega
            case rel => exact ⟨1 + 1, by omega, rfl, rfl, by rw [E.out]; exact Hown.out.alloc _, Hbel.out.alloc (by first | omega | (simp; done) | (simp; omega)) _⟩
        · first
          | (rw [HS.out] at hu; simp [usedAt] at hu; done)
          | have e : regsTo S (1 + 1) = L ++ [1 + 1] := by rw [Hst.out, hu]; simp
            have E := Lib.hid e
            clear e Hst hu
            obtain ⟨A5, c5, rfl⟩ := own_slice hown
            go_wp2_with (at_builtin; refine wpList_append_own _ rfl _ _ 138 rfl w.heap.size 141 i0 _ 1 8 Tryd.underlying138 hi hz0 hz1 hz2 rfl (by decide) (.slice A5 L.length c5) L.length (L.map (ptrM M)) rfl ((hown.alloc _).alloc _) ⟨wr.heap.size + 1, 0, none⟩ 1 1 [.pointer (some ⟨M, 1 + 1, none⟩)] rfl rfl ?_ ?_ ?_ ?_ ?_ ?_)
            any_goals first | (intro j u hj; match j, hj with | 0, hj => simp at hj; subst hj; simp [Addr.add]) | (simp [Value.oneCell']; done) | (unfold maxLen; omega) | omega | (simp; done) | (simp; omega)
            intro v' w2 hown1 hgrow _
            have hbel1 := ((Hbel.out.alloc hwz (Obj.cells #[.bool true, .pointer (some ⟨M, 1 + 1, none⟩)] 148)).alloc (by first | omega | (simp; done) | (simp; omega)) (Obj.cells #[.pointer (some ⟨M, 1 + 1, none⟩)] 141)).grown hgrow (by simp; omega) (fun k hk => (hown.lt k hk).1)
            have H1 := Lib.hid (And.intro hown1 hbel1)
            clear hown1 hbel1 hown hgrow
            go_wp2
            go_roundg (3 - (1 + 1))
            case measure => omega
            case rel => exact ⟨1 + 1, by omega, rfl, rfl, by rw [E.out]; simpa [ptrM] using H1.out.1, H1.out.2⟩
      · have Hst := Lib.hid (regsTo_step S 2 (by omega))
        have hle := regsTo_len S 2
        generalize regsTo S 2 = L at *
        cases hu : usedAt S 2
        · first
          | (rw [HS.out] at hu; simp [usedAt] at hu; done)
          | have e : regsTo S (2 + 1) = L := by rw [Hst.out, hu]; simp
            have E := Lib.hid e
            have Hown := Lib.hid hown
            clear e Hst hown hu
            go_wp2
            go_roundg (3 - (2 + 1))
            case measure => omega
            case rel => exact ⟨2 + 1, by omega, rfl, rfl, by rw [E.out]; exact Hown.out.alloc _, Hbel.out.alloc (by first | omega | (simp; done) | (simp; omega)) _⟩
        · first
          | (rw [HS.out] at hu; simp [usedAt] at hu; done)
          | have e : regsTo S (2 + 1) = L ++ [2 + 1] := by rw [Hst.out, hu]; simp
            have E := Lib.hid e
            clear e Hst hu
            obtain ⟨A5, c5, rfl⟩ := own_slice hown
            go_wp2_with (at_builtin; refine wpList_append_own _ rfl _ _ 138 rfl w.heap.size 141 i0 _ 1 8 Tryd.underlying138 hi hz0 hz1 hz2 rfl (by decide) (.slice A5 L.length c5) L.length (L.map (ptrM M)) rfl ((hown.alloc _).alloc _) ⟨wr.heap.size + 1, 0, none⟩ 1 1 [.pointer (some ⟨M, 2 + 1, none⟩)] rfl rfl ?_ ?_ ?_ ?_ ?_ ?_)
            any_goals first | (intro j u hj; match j, hj with | 0, hj => simp at hj; subst hj; simp [Addr.add]) | (simp [Value.oneCell']; done) | (unfold maxLen; omega) | omega | (simp; done) | (simp; omega)
            intro v' w2 hown1 hgrow _
            have hbel1 := ((Hbel.out.alloc hwz (Obj.cells #[.bool true, .pointer (some ⟨M, 2 + 1, none⟩)] 148)).alloc (by first | omega | (simp; done) | (simp; omega)) (Obj.cells #[.pointer (some ⟨M, 2 + 1, none⟩)] 141)).grown hgrow (by simp; omega) (fun k hk => (hown.lt k hk).1)
            have H1 := Lib.hid (And.intro hown1 hbel1)
            clear hown1 hbel1 hown hgrow
            go_wp2
            go_roundg (3 - (2 + 1))
            case measure => omega
            case rel => exact ⟨2 + 1, by omega, rfl, rfl, by rw [E.out]; simpa [ptrM] using H1.out.1, H1.out.2⟩
      · rw [regsTo_end] at hown
        have Hown := Lib.hid hown
        clear hown
        go_wp2
        exact HR.out _ _ Hbel.out Hown.out
end Go.Proofs.YtkodcoianakjoaaDoor
