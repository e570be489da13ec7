/- The walks, part 18. -/
import Derived.Test.YtdanebboiekieaaGreatDoorP17
set_option linter.unusedSimpArgs false
set_option linter.unusedVariables false
set_option maxRecDepth 100000
set_option maxHeartbeats 16000000
namespace Go.Proofs.YtdanebboiekieaaGreatDoor
open Go.RowKit
attribute [local go_sem] Oper.semAt_some
structure W8Ops (ops : Array Oper) : Prop where
 sz : ops.size = 37
 eg : qc8 ops = true
 o0 : OpIs ops 0 39 none (.fieldAddr 71 (.tmp 8) 2) []
 o1 : OpIs ops 1 40 none (.load 64 (.tmp 39)) [0]
 o2 : OpIs ops 2 41 none (.load 64 (.tmp 4)) []
 o3 : OpIs ops 3 42 none (.binOp .eql 64 (.tmp 40) (.tmp 41) 64) [1, 2]
 o4 : OpIs ops 4 43 none (.move (.tmp 42)) [3]
 o5 : OpIs ops 5 44 (some (4, true)) (.move (.tmp 0)) [4]
 o6 : OpIs ops 6 45 (some (4, true)) (.load 93 (.tmp 2)) [4]
 o7 : OpIs ops 7 46 (some (4, true)) (.nilCheck (.tmp 45)) [6, 4]
 o8 : OpIs ops 8 47 (some (4, true)) (.fieldAddr 96 (.tmp 46) 4) [7, 4]
 o9 : OpIs ops 9 48 (some (4, true)) (.load 26 (.tmp 47)) [8, 4]
 o10 : OpIs ops 10 49 (some (4, true)) (.fieldAddr 71 (.tmp 8) 1) [4]
 o11 : OpIs ops 11 50 (some (4, true)) (.load 3 (.tmp 49)) [10, 4]
 o12 : OpIs ops 12 51 (some (4, true)) (.indexAddr 26 (.tmp 48) (.tmp 50)) [9, 11, 4]
 o13 : OpIs ops 13 52 (some (4, true)) (.load 3 (.tmp 51)) [12, 4]
 o14 : OpIs ops 14 53 (some (4, true)) (.call { callee := .value (.tmp 44), args := #[.tmp 52], argTypes := #[3] }) [5, 13, 4]
 o15 : OpIs ops 15 54 (some (4, true)) (.unOp .not 4 (.tmp 53)) [14, 4]
 o16 : OpIs ops 16 55 none (.pick (.tmp 43) (.tmp 54) (.const (.bool false))) [4, 15]
 o17 : OpIs ops 17 56 none (.move (.tmp 55)) [16, 14]
 o18 : OpIs ops 18 57 (some (17, false)) (.fieldAddr 71 (.tmp 8) 1) [17]
 o19 : OpIs ops 19 58 (some (17, false)) (.load 3 (.tmp 57)) [18, 17]
 o20 : OpIs ops 20 59 (some (17, false)) (.load 3 (.tmp 1)) [17]
 o21 : OpIs ops 21 60 (some (17, false)) (.binOp .eql 3 (.tmp 58) (.tmp 59) 3) [19, 20, 17]
 o22 : OpIs ops 22 61 (some (17, false)) (.move (.tmp 60)) [21, 17]
 o23 : OpIs ops 23 62 (some (22, true)) (.move (.tmp 0)) [22]
 o24 : OpIs ops 24 63 (some (22, true)) (.load 93 (.tmp 2)) [22]
 o25 : OpIs ops 25 64 (some (22, true)) (.nilCheck (.tmp 63)) [24, 22]
 o26 : OpIs ops 26 65 (some (22, true)) (.fieldAddr 96 (.tmp 64) 4) [25, 22]
 o27 : OpIs ops 27 66 (some (22, true)) (.load 26 (.tmp 65)) [26, 22]
 o28 : OpIs ops 28 67 (some (22, true)) (.fieldAddr 71 (.tmp 8) 2) [22]
 o29 : OpIs ops 29 68 (some (22, true)) (.fieldAddr 64 (.tmp 67) 1) [28, 22]
 o30 : OpIs ops 30 69 (some (22, true)) (.load 3 (.tmp 68)) [29, 22]
 o31 : OpIs ops 31 70 (some (22, true)) (.indexAddr 26 (.tmp 66) (.tmp 69)) [27, 30, 22]
 o32 : OpIs ops 32 71 (some (22, true)) (.load 3 (.tmp 70)) [31, 22]
 o33 : OpIs ops 33 72 (some (22, true)) (.call { callee := .value (.tmp 62), args := #[.tmp 71], argTypes := #[3] }) [23, 32, 22]
 o34 : OpIs ops 34 73 (some (22, true)) (.unOp .not 4 (.tmp 72)) [33, 22]
 o35 : OpIs ops 35 74 (some (17, false)) (.pick (.tmp 61) (.tmp 73) (.const (.bool false))) [22, 34, 17]
 o36 : OpIs ops 36 75 none (.pick (.tmp 56) (.const (.bool true)) (.tmp 74)) [17, 35]
def qc4 (C : WC) (N : Nat) (ys : List Int) (v : Int) : Prop := ∀ W, C.J ys W -> YieldAt Fence.wide (N - 1) Tryz.prog C.lp #[.int .i64 v] W fun e W' => (e = .returned (.bool true) ∧ C.J (ys ++ [v]) W' ∧ CKeep C.Rc W W') ∨ (e = .returned (.bool false) ∧ C.Jx (ys ++ [v]) W')
theorem hz14 {ops : Array Oper} (hO : W8Ops ops) {d : Nat -> Bool} (hcl : q58 ops d) (hdi : d 14 = false) : ∀ j, 14 ≤ j -> j < 37 -> d j = false := by
 intro j h1 h2
 rcases (show j = 14 ∨ j = 15 ∨ j = 16 ∨ j = 17 ∨ j = 18 ∨ j = 19 ∨ j = 20 ∨ j = 21 ∨ j = 22 ∨ j = 23 ∨ j = 24 ∨ j = 25 ∨ j = 26 ∨ j = 27 ∨ j = 28 ∨ j = 29 ∨ j = 30 ∨ j = 31 ∨ j = 32 ∨ j = 33 ∨ j = 34 ∨ j = 35 ∨ j = 36 by omega) with rfl | rfl | rfl | rfl | rfl | rfl | rfl | rfl | rfl | rfl | rfl | rfl | rfl | rfl | rfl | rfl | rfl | rfl | rfl | rfl | rfl | rfl | rfl
 ·exact hdi
 ·exact qo (fun h => (hO.o15.deps hcl h 14 (by decide))) hdi
 ·exact qo (fun h => (hO.o15.deps hcl (hO.o16.deps hcl h 15 (by decide)) 14 (by decide))) hdi
 ·exact qo (fun h => (hO.o17.deps hcl h 14 (by decide))) hdi
 ·exact qo (fun h => (hO.o17.deps hcl (hO.o18.deps hcl h 17 (by decide)) 14 (by decide))) hdi
 ·exact qo (fun h => (hO.o17.deps hcl (hO.o19.deps hcl h 17 (by decide)) 14 (by decide))) hdi
 ·exact qo (fun h => (hO.o17.deps hcl (hO.o20.deps hcl h 17 (by decide)) 14 (by decide))) hdi
 ·exact qo (fun h => (hO.o17.deps hcl (hO.o21.deps hcl h 17 (by decide)) 14 (by decide))) hdi
 ·exact qo (fun h => (hO.o17.deps hcl (hO.o22.deps hcl h 17 (by decide)) 14 (by decide))) hdi
 ·exact qo (fun h => (hO.o17.deps hcl (hO.o22.deps hcl (hO.o23.deps hcl h 22 (by decide)) 17 (by decide)) 14 (by decide))) hdi
 ·exact qo (fun h => (hO.o17.deps hcl (hO.o22.deps hcl (hO.o24.deps hcl h 22 (by decide)) 17 (by decide)) 14 (by decide))) hdi
 ·exact qo (fun h => (hO.o17.deps hcl (hO.o22.deps hcl (hO.o25.deps hcl h 22 (by decide)) 17 (by decide)) 14 (by decide))) hdi
 ·exact qo (fun h => (hO.o17.deps hcl (hO.o22.deps hcl (hO.o26.deps hcl h 22 (by decide)) 17 (by decide)) 14 (by decide))) hdi
 ·exact qo (fun h => (hO.o17.deps hcl (hO.o22.deps hcl (hO.o27.deps hcl h 22 (by decide)) 17 (by decide)) 14 (by decide))) hdi
 ·exact qo (fun h => (hO.o17.deps hcl (hO.o22.deps hcl (hO.o28.deps hcl h 22 (by decide)) 17 (by decide)) 14 (by decide))) hdi
 ·exact qo (fun h => (hO.o17.deps hcl (hO.o22.deps hcl (hO.o29.deps hcl h 22 (by decide)) 17 (by decide)) 14 (by decide))) hdi
 ·exact qo (fun h => (hO.o17.deps hcl (hO.o22.deps hcl (hO.o30.deps hcl h 22 (by decide)) 17 (by decide)) 14 (by decide))) hdi
 ·exact qo (fun h => (hO.o17.deps hcl (hO.o22.deps hcl (hO.o31.deps hcl h 22 (by decide)) 17 (by decide)) 14 (by decide))) hdi
 ·exact qo (fun h => (hO.o17.deps hcl (hO.o22.deps hcl (hO.o32.deps hcl h 22 (by decide)) 17 (by decide)) 14 (by decide))) hdi
 ·exact qo (fun h => (hO.o17.deps hcl (hO.o22.deps hcl (hO.o33.deps hcl h 22 (by decide)) 17 (by decide)) 14 (by decide))) hdi
 ·exact qo (fun h => (hO.o17.deps hcl (hO.o22.deps hcl (hO.o34.deps hcl h 22 (by decide)) 17 (by decide)) 14 (by decide))) hdi
 ·exact qo (fun h => (hO.o17.deps hcl (hO.o35.deps hcl h 17 (by decide)) 14 (by decide))) hdi
 ·exact qo (fun h => (hO.o17.deps hcl (hO.o36.deps hcl h 17 (by decide)) 14 (by decide))) hdi
theorem hz33 {ops : Array Oper} (hO : W8Ops ops) {d : Nat -> Bool} (hcl : q58 ops d) (hdi : d 33 = false) : ∀ j, 33 ≤ j -> j < 37 -> d j = false := by
 intro j h1 h2
 rcases (show j = 33 ∨ j = 34 ∨ j = 35 ∨ j = 36 by omega) with rfl | rfl | rfl | rfl
 ·exact hdi
 ·exact qo (fun h => (hO.o34.deps hcl h 33 (by decide))) hdi
 ·exact qo (fun h => (hO.o34.deps hcl (hO.o35.deps hcl h 34 (by decide)) 33 (by decide))) hdi
 ·exact qo (fun h => (hO.o34.deps hcl (hO.o35.deps hcl (hO.o36.deps hcl h 35 (by decide)) 34 (by decide)) 33 (by decide))) hdi
def RS (i : Nat) : Prop := ∀ {C : WC} {d : Nat -> Bool} {a0 a : Act} {w : World} {Q : Exit -> Act -> World -> Prop} {o : Oper} {ops : Array Oper} {N : Nat}, WRI C d (vals a) w -> W8Ops ops -> q58 ops d -> Ag WIS a0 a -> (∀ k ∈ WIS, k < a0.tmps.size) -> ActW C a0 -> ops[i]? = some o -> d i = false -> (∀ e ∈ o.after, Region.binds .any e = true -> d e.on = true) -> StepIn Fence.wide N Tryz.prog ops Q WIS a0 (WRI C) d i o a w
theorem WR.r0 : RS 0 := by
 intro C d a0 a w Q o ops N HH hO hcl hag hsl HA ho hdi hall
 obtain ⟨c1, c2, H⟩ := HH
 obtain ⟨h1, h2, h3, h4⟩ := hO.o0.all ho hall
 exact H.q0 hag HA (q00 h2) h1  h3
theorem WR.r1 : RS 1 := by
 intro C d a0 a w Q o ops N HH hO hcl hag hsl HA ho hdi hall
 obtain ⟨c1, c2, H⟩ := HH
 obtain ⟨h1, h2, h3, h4⟩ := hO.o1.all ho hall
 exact H.q1 hag HA (q00 h2) h1 (h4 0 (by decide)) (qo (fun h => (hO.o3.deps hcl (hO.o4.deps hcl (hO.o14.deps hcl h 4 (by decide)) 3 (by decide)) 1 (by decide))) hdi) (qo (fun h => (hO.o3.deps hcl (hO.o4.deps hcl (hO.o16.deps hcl (hO.o17.deps hcl (hO.o22.deps hcl (hO.o33.deps hcl h 22 (by decide)) 17 (by decide)) 16 (by decide)) 4 (by decide)) 3 (by decide)) 1 (by decide))) hdi) h3
theorem WR.r2 : RS 2 := by
 intro C d a0 a w Q o ops N HH hO hcl hag hsl HA ho hdi hall
 obtain ⟨c1, c2, H⟩ := HH
 obtain ⟨h1, h2, h3, h4⟩ := hO.o2.all ho hall
 exact H.q2 hag HA (q00 h2) h1 (qo (fun h => (hO.o3.deps hcl (hO.o4.deps hcl (hO.o14.deps hcl h 4 (by decide)) 3 (by decide)) 2 (by decide))) hdi) (qo (fun h => (hO.o3.deps hcl (hO.o4.deps hcl (hO.o16.deps hcl (hO.o17.deps hcl (hO.o22.deps hcl (hO.o33.deps hcl h 22 (by decide)) 17 (by decide)) 16 (by decide)) 4 (by decide)) 3 (by decide)) 2 (by decide))) hdi) h3
theorem WR.r3 : RS 3 := by
 intro C d a0 a w Q o ops N HH hO hcl hag hsl HA ho hdi hall
 obtain ⟨c1, c2, H⟩ := HH
 obtain ⟨h1, h2, h3, h4⟩ := hO.o3.all ho hall
 exact H.q3 hag HA (q00 h2) h1 (h4 1 (by decide)) (h4 2 (by decide)) h3
theorem WR.r4 : RS 4 := by
 intro C d a0 a w Q o ops N HH hO hcl hag hsl HA ho hdi hall
 obtain ⟨c1, c2, H⟩ := HH
 obtain ⟨h1, h2, h3, h4⟩ := hO.o4.all ho hall
 exact H.q4 hag HA (q00 h2) h1 (h4 3 (by decide)) h3
theorem WR.r5 : RS 5 := by
 intro C d a0 a w Q o ops N HH hO hcl hag hsl HA ho hdi hall
 obtain ⟨c1, c2, H⟩ := HH
 obtain ⟨h1, h2, h3, h4⟩ := hO.o5.all ho hall
 have hwn := qs h2 hO.o4 (by rw [hag.sz]; exact hsl 43 (by decide)) (H.v43 (h4 4 (by decide)))
 cases hb : C.B1
 ·rw [hb] at hwn
  exact H.s5B1 hag hwn h1 hb
 ·rw [hb] at hwn
  exact H.q5 hag HA hwn h1 hb h3
theorem WR.r6 : RS 6 := by
 intro C d a0 a w Q o ops N HH hO hcl hag hsl HA ho hdi hall
 obtain ⟨c1, c2, H⟩ := HH
 obtain ⟨h1, h2, h3, h4⟩ := hO.o6.all ho hall
 have hwn := qs h2 hO.o4 (by rw [hag.sz]; exact hsl 43 (by decide)) (H.v43 (h4 4 (by decide)))
 cases hb : C.B1
 ·rw [hb] at hwn
  exact H.s6B1 hag hwn h1 hb
 ·rw [hb] at hwn
  exact H.q6 hag HA hwn h1 hb (qo (fun h => (hO.o7.deps hcl (hO.o8.deps hcl (hO.o9.deps hcl (hO.o12.deps hcl (hO.o13.deps hcl (hO.o14.deps hcl h 13 (by decide)) 12 (by decide)) 9 (by decide)) 8 (by decide)) 7 (by decide)) 6 (by decide))) hdi) (qo (fun h => (hO.o7.deps hcl (hO.o8.deps hcl (hO.o9.deps hcl (hO.o12.deps hcl (hO.o13.deps hcl (hO.o14.deps hcl (hO.o17.deps hcl (hO.o22.deps hcl (hO.o33.deps hcl h 22 (by decide)) 17 (by decide)) 14 (by decide)) 13 (by decide)) 12 (by decide)) 9 (by decide)) 8 (by decide)) 7 (by decide)) 6 (by decide))) hdi) h3
theorem WR.r7 : RS 7 := by
 intro C d a0 a w Q o ops N HH hO hcl hag hsl HA ho hdi hall
 obtain ⟨c1, c2, H⟩ := HH
 obtain ⟨h1, h2, h3, h4⟩ := hO.o7.all ho hall
 have hwn := qs h2 hO.o4 (by rw [hag.sz]; exact hsl 43 (by decide)) (H.v43 (h4 4 (by decide)))
 cases hb : C.B1
 ·rw [hb] at hwn
  exact H.s7B1 hag hwn h1 hb
 ·rw [hb] at hwn
  exact H.q7 hag HA hwn h1 (h4 6 (by decide)) hb h3
theorem WR.r8 : RS 8 := by
 intro C d a0 a w Q o ops N HH hO hcl hag hsl HA ho hdi hall
 obtain ⟨c1, c2, H⟩ := HH
 obtain ⟨h1, h2, h3, h4⟩ := hO.o8.all ho hall
 have hwn := qs h2 hO.o4 (by rw [hag.sz]; exact hsl 43 (by decide)) (H.v43 (h4 4 (by decide)))
 cases hb : C.B1
 ·rw [hb] at hwn
  exact H.s8B1 hag hwn h1 hb
 ·rw [hb] at hwn
  exact H.q8 hag HA hwn h1 (h4 7 (by decide)) hb h3
theorem WR.r9 : RS 9 := by
 intro C d a0 a w Q o ops N HH hO hcl hag hsl HA ho hdi hall
 obtain ⟨c1, c2, H⟩ := HH
 obtain ⟨h1, h2, h3, h4⟩ := hO.o9.all ho hall
 have hwn := qs h2 hO.o4 (by rw [hag.sz]; exact hsl 43 (by decide)) (H.v43 (h4 4 (by decide)))
 cases hb : C.B1
 ·rw [hb] at hwn
  exact H.s9B1 hag hwn h1 hb
 ·rw [hb] at hwn
  exact H.q9 hag HA hwn h1 (h4 8 (by decide)) hb (qo (fun h => (hO.o12.deps hcl (hO.o13.deps hcl (hO.o14.deps hcl h 13 (by decide)) 12 (by decide)) 9 (by decide))) hdi) (qo (fun h => (hO.o12.deps hcl (hO.o13.deps hcl (hO.o14.deps hcl (hO.o17.deps hcl (hO.o22.deps hcl (hO.o33.deps hcl h 22 (by decide)) 17 (by decide)) 14 (by decide)) 13 (by decide)) 12 (by decide)) 9 (by decide))) hdi) h3
theorem WR.r10 : RS 10 := by
 intro C d a0 a w Q o ops N HH hO hcl hag hsl HA ho hdi hall
 obtain ⟨c1, c2, H⟩ := HH
 obtain ⟨h1, h2, h3, h4⟩ := hO.o10.all ho hall
 have hwn := qs h2 hO.o4 (by rw [hag.sz]; exact hsl 43 (by decide)) (H.v43 (h4 4 (by decide)))
 cases hb : C.B1
 ·rw [hb] at hwn
  exact H.s10B1 hag hwn h1 hb
 ·rw [hb] at hwn
  exact H.q10 hag HA hwn h1 hb h3
theorem WR.r11 : RS 11 := by
 intro C d a0 a w Q o ops N HH hO hcl hag hsl HA ho hdi hall
 obtain ⟨c1, c2, H⟩ := HH
 obtain ⟨h1, h2, h3, h4⟩ := hO.o11.all ho hall
 have hwn := qs h2 hO.o4 (by rw [hag.sz]; exact hsl 43 (by decide)) (H.v43 (h4 4 (by decide)))
 cases hb : C.B1
 ·rw [hb] at hwn
  exact H.s11B1 hag hwn h1 hb
 ·rw [hb] at hwn
  exact H.q11 hag HA hwn h1 (h4 10 (by decide)) hb (qo (fun h => (hO.o12.deps hcl (hO.o13.deps hcl (hO.o14.deps hcl h 13 (by decide)) 12 (by decide)) 11 (by decide))) hdi) (qo (fun h => (hO.o12.deps hcl (hO.o13.deps hcl (hO.o14.deps hcl (hO.o17.deps hcl (hO.o22.deps hcl (hO.o33.deps hcl h 22 (by decide)) 17 (by decide)) 14 (by decide)) 13 (by decide)) 12 (by decide)) 11 (by decide))) hdi) h3
theorem WR.r12 : RS 12 := by
 intro C d a0 a w Q o ops N HH hO hcl hag hsl HA ho hdi hall
 obtain ⟨c1, c2, H⟩ := HH
 obtain ⟨h1, h2, h3, h4⟩ := hO.o12.all ho hall
 have hwn := qs h2 hO.o4 (by rw [hag.sz]; exact hsl 43 (by decide)) (H.v43 (h4 4 (by decide)))
 cases hb : C.B1
 ·rw [hb] at hwn
  exact H.s12B1 hag hwn h1 hb
 ·rw [hb] at hwn
  exact H.q12 hag HA hwn h1 (h4 9 (by decide)) (h4 11 (by decide)) hb h3
theorem WR.r13 : RS 13 := by
 intro C d a0 a w Q o ops N HH hO hcl hag hsl HA ho hdi hall
 obtain ⟨c1, c2, H⟩ := HH
 obtain ⟨h1, h2, h3, h4⟩ := hO.o13.all ho hall
 have hwn := qs h2 hO.o4 (by rw [hag.sz]; exact hsl 43 (by decide)) (H.v43 (h4 4 (by decide)))
 cases hb : C.B1
 ·rw [hb] at hwn
  exact H.s13B1 hag hwn h1 hb
 ·rw [hb] at hwn
  exact H.q13 hag HA hwn h1 (h4 12 (by decide)) hb (qo (fun h => (hO.o14.deps hcl h 13 (by decide))) hdi) (qo (fun h => (hO.o14.deps hcl (hO.o17.deps hcl (hO.o22.deps hcl (hO.o33.deps hcl h 22 (by decide)) 17 (by decide)) 14 (by decide)) 13 (by decide))) hdi) h3
theorem WR.r14 {C : WC} {d : Nat -> Bool} {a0 a : Act} {w : World} {Q : Exit -> Act -> World -> Prop} {o : Oper} {ops : Array Oper} {N : Nat} (HH : WRI C d (vals a) w) (hO : W8Ops ops) (hcl : q58 ops d) (hag : Ag WIS a0 a) (hsl : ∀ k ∈ WIS, k < a0.tmps.size) (HA : ActW C a0) (hY14 : C.B1 = true -> qc4 C N C.ys C.p1) (ho : ops[14]? = some o) (hdi : d 14 = false) (hall : ∀ e ∈ o.after, Region.binds .any e = true -> d e.on = true) : StepIn Fence.wide N Tryz.prog ops Q WIS a0 (WRI C) d 14 o a w := by
 obtain ⟨c1, c2, H⟩ := HH
 obtain ⟨h1, h2, h3, h4⟩ := hO.o14.all ho hall
 have hwn := qs h2 hO.o4 (by rw [hag.sz]; exact hsl 43 (by decide)) (H.v43 (h4 4 (by decide)))
 cases hb : C.B1
 ·rw [hb] at hwn
  exact H.s14B1 hag hwn h1 hb
 ·rw [hb] at hwn
  exact H.q14 hag HA hwn h1 (h4 5 (by decide)) (h4 13 (by decide)) hb (hz14 hO hcl hdi) (hY14 hb) h3
theorem WR.r15 : RS 15 := by
 intro C d a0 a w Q o ops N HH hO hcl hag hsl HA ho hdi hall
 obtain ⟨c1, c2, H⟩ := HH
 obtain ⟨h1, h2, h3, h4⟩ := hO.o15.all ho hall
 have hwn := qs h2 hO.o4 (by rw [hag.sz]; exact hsl 43 (by decide)) (H.v43 (h4 4 (by decide)))
 cases hb : C.B1
 ·rw [hb] at hwn
  exact H.s15B1 hag hwn h1 hb
 ·rw [hb] at hwn
  exact H.q15 hag HA hwn h1 (h4 14 (by decide)) hb h3
theorem WR.r16 : RS 16 := by
 intro C d a0 a w Q o ops N HH hO hcl hag hsl HA ho hdi hall
 obtain ⟨c1, c2, H⟩ := HH
 obtain ⟨h1, h2, h3, h4⟩ := hO.o16.all ho hall
 exact H.q16 hag HA (q00 h2) h1 (h4 4 (by decide)) (h4 15 (by decide)) h3
theorem WR.r17 : RS 17 := by
 intro C d a0 a w Q o ops N HH hO hcl hag hsl HA ho hdi hall
 obtain ⟨c1, c2, H⟩ := HH
 obtain ⟨h1, h2, h3, h4⟩ := hO.o17.all ho hall
 exact H.q17 hag HA (q00 h2) h1 (h4 16 (by decide)) h3
theorem WR.r18 : RS 18 := by
 intro C d a0 a w Q o ops N HH hO hcl hag hsl HA ho hdi hall
 obtain ⟨c1, c2, H⟩ := HH
 obtain ⟨h1, h2, h3, h4⟩ := hO.o18.all ho hall
 have hwn := qs h2 hO.o17 (by rw [hag.sz]; exact hsl 56 (by decide)) (H.v56 (h4 17 (by decide)))
 cases c1
 ·exact H.s18c1 hag hwn h1 rfl
 ·exact H.q18 hag HA hwn h1 rfl h3
theorem WR.r19 : RS 19 := by
 intro C d a0 a w Q o ops N HH hO hcl hag hsl HA ho hdi hall
 obtain ⟨c1, c2, H⟩ := HH
 obtain ⟨h1, h2, h3, h4⟩ := hO.o19.all ho hall
 have hwn := qs h2 hO.o17 (by rw [hag.sz]; exact hsl 56 (by decide)) (H.v56 (h4 17 (by decide)))
 cases c1
 ·exact H.s19c1 hag hwn h1 rfl
 ·exact H.q19 hag HA hwn h1 (h4 18 (by decide)) rfl (qo (fun h => (hO.o21.deps hcl (hO.o22.deps hcl (hO.o33.deps hcl h 22 (by decide)) 21 (by decide)) 19 (by decide))) hdi) h3
theorem WR.r20 : RS 20 := by
 intro C d a0 a w Q o ops N HH hO hcl hag hsl HA ho hdi hall
 obtain ⟨c1, c2, H⟩ := HH
 obtain ⟨h1, h2, h3, h4⟩ := hO.o20.all ho hall
 have hwn := qs h2 hO.o17 (by rw [hag.sz]; exact hsl 56 (by decide)) (H.v56 (h4 17 (by decide)))
 cases c1
 ·exact H.s20c1 hag hwn h1 rfl
 ·exact H.q20 hag HA hwn h1 rfl (qo (fun h => (hO.o21.deps hcl (hO.o22.deps hcl (hO.o33.deps hcl h 22 (by decide)) 21 (by decide)) 20 (by decide))) hdi) h3
theorem WR.r21 : RS 21 := by
 intro C d a0 a w Q o ops N HH hO hcl hag hsl HA ho hdi hall
 obtain ⟨c1, c2, H⟩ := HH
 obtain ⟨h1, h2, h3, h4⟩ := hO.o21.all ho hall
 have hwn := qs h2 hO.o17 (by rw [hag.sz]; exact hsl 56 (by decide)) (H.v56 (h4 17 (by decide)))
 cases c1
 ·exact H.s21c1 hag hwn h1 rfl
 ·exact H.q21 hag HA hwn h1 (h4 19 (by decide)) (h4 20 (by decide)) rfl h3
theorem WR.r22 : RS 22 := by
 intro C d a0 a w Q o ops N HH hO hcl hag hsl HA ho hdi hall
 obtain ⟨c1, c2, H⟩ := HH
 obtain ⟨h1, h2, h3, h4⟩ := hO.o22.all ho hall
 have hwn := qs h2 hO.o17 (by rw [hag.sz]; exact hsl 56 (by decide)) (H.v56 (h4 17 (by decide)))
 cases c1
 ·exact H.s22c1 hag hwn h1 rfl
 ·exact H.q22 hag HA hwn h1 (h4 21 (by decide)) rfl h3
theorem WR.r23 : RS 23 := by
 intro C d a0 a w Q o ops N HH hO hcl hag hsl HA ho hdi hall
 obtain ⟨c1, c2, H⟩ := HH
 obtain ⟨h1, h2, h3, h4⟩ := hO.o23.all ho hall
 cases c1
 ·obtain ⟨og, hog, hg1, _⟩ := hO.o22
  exact H.s23c1 hag (q0b h2 hog hg1 (by rw [hag.sz]; exact hsl 61 (by decide)) (H.v61u (h4 22 (by decide)) rfl)) h1 rfl
 ·have hwn := qs h2 hO.o22 (by rw [hag.sz]; exact hsl 61 (by decide)) (H.v61 (h4 22 (by decide)) rfl)
  cases hb : C.B2
  ·rw [hb] at hwn
   exact H.s23B2 hag hwn h1 hb
  ·rw [hb] at hwn
   exact H.q23 hag HA hwn h1 rfl hb h3
theorem WR.r24 : RS 24 := by
 intro C d a0 a w Q o ops N HH hO hcl hag hsl HA ho hdi hall
 obtain ⟨c1, c2, H⟩ := HH
 obtain ⟨h1, h2, h3, h4⟩ := hO.o24.all ho hall
 cases c1
 ·obtain ⟨og, hog, hg1, _⟩ := hO.o22
  exact H.s24c1 hag (q0b h2 hog hg1 (by rw [hag.sz]; exact hsl 61 (by decide)) (H.v61u (h4 22 (by decide)) rfl)) h1 rfl
 ·have hwn := qs h2 hO.o22 (by rw [hag.sz]; exact hsl 61 (by decide)) (H.v61 (h4 22 (by decide)) rfl)
  cases hb : C.B2
  ·rw [hb] at hwn
   exact H.s24B2 hag hwn h1 hb
  ·rw [hb] at hwn
   exact H.q24 hag HA hwn h1 rfl hb (qo (fun h => (hO.o25.deps hcl (hO.o26.deps hcl (hO.o27.deps hcl (hO.o31.deps hcl (hO.o32.deps hcl (hO.o33.deps hcl h 32 (by decide)) 31 (by decide)) 27 (by decide)) 26 (by decide)) 25 (by decide)) 24 (by decide))) hdi) h3
theorem WR.r25 : RS 25 := by
 intro C d a0 a w Q o ops N HH hO hcl hag hsl HA ho hdi hall
 obtain ⟨c1, c2, H⟩ := HH
 obtain ⟨h1, h2, h3, h4⟩ := hO.o25.all ho hall
 cases c1
 ·obtain ⟨og, hog, hg1, _⟩ := hO.o22
  exact H.s25c1 hag (q0b h2 hog hg1 (by rw [hag.sz]; exact hsl 61 (by decide)) (H.v61u (h4 22 (by decide)) rfl)) h1 rfl
 ·have hwn := qs h2 hO.o22 (by rw [hag.sz]; exact hsl 61 (by decide)) (H.v61 (h4 22 (by decide)) rfl)
  cases hb : C.B2
  ·rw [hb] at hwn
   exact H.s25B2 hag hwn h1 hb
  ·rw [hb] at hwn
   exact H.q25 hag HA hwn h1 (h4 24 (by decide)) rfl hb h3
theorem WR.r26 : RS 26 := by
 intro C d a0 a w Q o ops N HH hO hcl hag hsl HA ho hdi hall
 obtain ⟨c1, c2, H⟩ := HH
 obtain ⟨h1, h2, h3, h4⟩ := hO.o26.all ho hall
 cases c1
 ·obtain ⟨og, hog, hg1, _⟩ := hO.o22
  exact H.s26c1 hag (q0b h2 hog hg1 (by rw [hag.sz]; exact hsl 61 (by decide)) (H.v61u (h4 22 (by decide)) rfl)) h1 rfl
 ·have hwn := qs h2 hO.o22 (by rw [hag.sz]; exact hsl 61 (by decide)) (H.v61 (h4 22 (by decide)) rfl)
  cases hb : C.B2
  ·rw [hb] at hwn
   exact H.s26B2 hag hwn h1 hb
  ·rw [hb] at hwn
   exact H.q26 hag HA hwn h1 (h4 25 (by decide)) rfl hb h3
theorem WR.r27 : RS 27 := by
 intro C d a0 a w Q o ops N HH hO hcl hag hsl HA ho hdi hall
 obtain ⟨c1, c2, H⟩ := HH
 obtain ⟨h1, h2, h3, h4⟩ := hO.o27.all ho hall
 cases c1
 ·obtain ⟨og, hog, hg1, _⟩ := hO.o22
  exact H.s27c1 hag (q0b h2 hog hg1 (by rw [hag.sz]; exact hsl 61 (by decide)) (H.v61u (h4 22 (by decide)) rfl)) h1 rfl
 ·have hwn := qs h2 hO.o22 (by rw [hag.sz]; exact hsl 61 (by decide)) (H.v61 (h4 22 (by decide)) rfl)
  cases hb : C.B2
  ·rw [hb] at hwn
   exact H.s27B2 hag hwn h1 hb
  ·rw [hb] at hwn
   exact H.q27 hag HA hwn h1 (h4 26 (by decide)) rfl hb (qo (fun h => (hO.o31.deps hcl (hO.o32.deps hcl (hO.o33.deps hcl h 32 (by decide)) 31 (by decide)) 27 (by decide))) hdi) h3
theorem WR.r28 : RS 28 := by
 intro C d a0 a w Q o ops N HH hO hcl hag hsl HA ho hdi hall
 obtain ⟨c1, c2, H⟩ := HH
 obtain ⟨h1, h2, h3, h4⟩ := hO.o28.all ho hall
 cases c1
 ·obtain ⟨og, hog, hg1, _⟩ := hO.o22
  exact H.s28c1 hag (q0b h2 hog hg1 (by rw [hag.sz]; exact hsl 61 (by decide)) (H.v61u (h4 22 (by decide)) rfl)) h1 rfl
 ·have hwn := qs h2 hO.o22 (by rw [hag.sz]; exact hsl 61 (by decide)) (H.v61 (h4 22 (by decide)) rfl)
  cases hb : C.B2
  ·rw [hb] at hwn
   exact H.s28B2 hag hwn h1 hb
  ·rw [hb] at hwn
   exact H.q28 hag HA hwn h1 rfl hb h3
theorem WR.r29 : RS 29 := by
 intro C d a0 a w Q o ops N HH hO hcl hag hsl HA ho hdi hall
 obtain ⟨c1, c2, H⟩ := HH
 obtain ⟨h1, h2, h3, h4⟩ := hO.o29.all ho hall
 cases c1
 ·obtain ⟨og, hog, hg1, _⟩ := hO.o22
  exact H.s29c1 hag (q0b h2 hog hg1 (by rw [hag.sz]; exact hsl 61 (by decide)) (H.v61u (h4 22 (by decide)) rfl)) h1 rfl
 ·have hwn := qs h2 hO.o22 (by rw [hag.sz]; exact hsl 61 (by decide)) (H.v61 (h4 22 (by decide)) rfl)
  cases hb : C.B2
  ·rw [hb] at hwn
   exact H.s29B2 hag hwn h1 hb
  ·rw [hb] at hwn
   exact H.q29 hag HA hwn h1 (h4 28 (by decide)) rfl hb h3
theorem WR.r30 : RS 30 := by
 intro C d a0 a w Q o ops N HH hO hcl hag hsl HA ho hdi hall
 obtain ⟨c1, c2, H⟩ := HH
 obtain ⟨h1, h2, h3, h4⟩ := hO.o30.all ho hall
 cases c1
 ·obtain ⟨og, hog, hg1, _⟩ := hO.o22
  exact H.s30c1 hag (q0b h2 hog hg1 (by rw [hag.sz]; exact hsl 61 (by decide)) (H.v61u (h4 22 (by decide)) rfl)) h1 rfl
 ·have hwn := qs h2 hO.o22 (by rw [hag.sz]; exact hsl 61 (by decide)) (H.v61 (h4 22 (by decide)) rfl)
  cases hb : C.B2
  ·rw [hb] at hwn
   exact H.s30B2 hag hwn h1 hb
  ·rw [hb] at hwn
   exact H.q30 hag HA hwn h1 (h4 29 (by decide)) rfl hb (qo (fun h => (hO.o31.deps hcl (hO.o32.deps hcl (hO.o33.deps hcl h 32 (by decide)) 31 (by decide)) 30 (by decide))) hdi) h3
theorem WR.r31 : RS 31 := by
 intro C d a0 a w Q o ops N HH hO hcl hag hsl HA ho hdi hall
 obtain ⟨c1, c2, H⟩ := HH
 obtain ⟨h1, h2, h3, h4⟩ := hO.o31.all ho hall
 cases c1
 ·obtain ⟨og, hog, hg1, _⟩ := hO.o22
  exact H.s31c1 hag (q0b h2 hog hg1 (by rw [hag.sz]; exact hsl 61 (by decide)) (H.v61u (h4 22 (by decide)) rfl)) h1 rfl
 ·have hwn := qs h2 hO.o22 (by rw [hag.sz]; exact hsl 61 (by decide)) (H.v61 (h4 22 (by decide)) rfl)
  cases hb : C.B2
  ·rw [hb] at hwn
   exact H.s31B2 hag hwn h1 hb
  ·rw [hb] at hwn
   exact H.q31 hag HA hwn h1 (h4 27 (by decide)) (h4 30 (by decide)) rfl hb h3
theorem WR.r32 : RS 32 := by
 intro C d a0 a w Q o ops N HH hO hcl hag hsl HA ho hdi hall
 obtain ⟨c1, c2, H⟩ := HH
 obtain ⟨h1, h2, h3, h4⟩ := hO.o32.all ho hall
 cases c1
 ·obtain ⟨og, hog, hg1, _⟩ := hO.o22
  exact H.s32c1 hag (q0b h2 hog hg1 (by rw [hag.sz]; exact hsl 61 (by decide)) (H.v61u (h4 22 (by decide)) rfl)) h1 rfl
 ·have hwn := qs h2 hO.o22 (by rw [hag.sz]; exact hsl 61 (by decide)) (H.v61 (h4 22 (by decide)) rfl)
  cases hb : C.B2
  ·rw [hb] at hwn
   exact H.s32B2 hag hwn h1 hb
  ·rw [hb] at hwn
   exact H.q32 hag HA hwn h1 (h4 31 (by decide)) rfl hb (qo (fun h => (hO.o33.deps hcl h 32 (by decide))) hdi) h3
theorem WR.r33 {C : WC} {d : Nat -> Bool} {a0 a : Act} {w : World} {Q : Exit -> Act -> World -> Prop} {o : Oper} {ops : Array Oper} {N : Nat} (HH : WRI C d (vals a) w) (hO : W8Ops ops) (hcl : q58 ops d) (hag : Ag WIS a0 a) (hsl : ∀ k ∈ WIS, k < a0.tmps.size) (HA : ActW C a0) (hY33 : C.B2 = true -> qc4 C N (C.ys ++ C.q1) C.p2) (ho : ops[33]? = some o) (hdi : d 33 = false) (hall : ∀ e ∈ o.after, Region.binds .any e = true -> d e.on = true) : StepIn Fence.wide N Tryz.prog ops Q WIS a0 (WRI C) d 33 o a w := by
 obtain ⟨c1, c2, H⟩ := HH
 obtain ⟨h1, h2, h3, h4⟩ := hO.o33.all ho hall
 cases c1
 ·obtain ⟨og, hog, hg1, _⟩ := hO.o22
  exact H.s33c1 hag (q0b h2 hog hg1 (by rw [hag.sz]; exact hsl 61 (by decide)) (H.v61u (h4 22 (by decide)) rfl)) h1 rfl
 ·have hwn := qs h2 hO.o22 (by rw [hag.sz]; exact hsl 61 (by decide)) (H.v61 (h4 22 (by decide)) rfl)
  cases hb : C.B2
  ·rw [hb] at hwn
   exact H.s33B2 hag hwn h1 hb
  ·rw [hb] at hwn
   exact H.q33 hag HA hwn h1 (h4 23 (by decide)) (h4 32 (by decide)) (hO.o17.deps hcl (hO.o22.deps hcl (h4 22 (by decide)) 17 (by decide)) 14 (by decide)) rfl hb (hz33 hO hcl hdi) (hY33 hb) h3
theorem WR.r34 : RS 34 := by
 intro C d a0 a w Q o ops N HH hO hcl hag hsl HA ho hdi hall
 obtain ⟨c1, c2, H⟩ := HH
 obtain ⟨h1, h2, h3, h4⟩ := hO.o34.all ho hall
 cases c1
 ·obtain ⟨og, hog, hg1, _⟩ := hO.o22
  exact H.s34c1 hag (q0b h2 hog hg1 (by rw [hag.sz]; exact hsl 61 (by decide)) (H.v61u (h4 22 (by decide)) rfl)) h1 rfl
 ·have hwn := qs h2 hO.o22 (by rw [hag.sz]; exact hsl 61 (by decide)) (H.v61 (h4 22 (by decide)) rfl)
  cases hb : C.B2
  ·rw [hb] at hwn
   exact H.s34B2 hag hwn h1 hb
  ·rw [hb] at hwn
   exact H.q34 hag HA hwn h1 (h4 33 (by decide)) rfl hb h3
theorem WR.r35 : RS 35 := by
 intro C d a0 a w Q o ops N HH hO hcl hag hsl HA ho hdi hall
 obtain ⟨c1, c2, H⟩ := HH
 obtain ⟨h1, h2, h3, h4⟩ := hO.o35.all ho hall
 have hwn := qs h2 hO.o17 (by rw [hag.sz]; exact hsl 56 (by decide)) (H.v56 (h4 17 (by decide)))
 cases c1
 ·exact H.s35c1 hag hwn h1 rfl
 ·exact H.q35 hag HA hwn h1 (h4 22 (by decide)) (h4 34 (by decide)) rfl h3
theorem WR.r36 : RS 36 := by
 intro C d a0 a w Q o ops N HH hO hcl hag hsl HA ho hdi hall
 obtain ⟨c1, c2, H⟩ := HH
 obtain ⟨h1, h2, h3, h4⟩ := hO.o36.all ho hall
 exact H.q36 hag HA (q00 h2) h1 (h4 17 (by decide)) (h4 35 (by decide)) h3
theorem qgv {C : WC} {N id : Nat} {ops : Array Oper} {Q : Exit -> Act -> World -> Prop} {a0 : Act} {w : World} (hm : (Tryz.prog).follows .mixedOrders = true) (hO : W8Ops ops) (hsl : ∀ k ∈ WIS, k < a0.tmps.size) (HA : ActW C a0) (hN : C.Need w.drew) (hJ : C.J C.ys w.drew)
 (hY14 : C.B1 = true -> qc4 C N C.ys C.p1) (hY33 : C.B2 = true -> qc4 C N (C.ys ++ C.q1) C.p2)
 (hQ : ∀ (vs : Nat -> Value) w', (∀ k, k ∉ WIS -> vs k = vals a0 k) -> ((vs 75 = .bool false ∧ C.Need w' ∧ C.J (C.ys ++ C.q1 ++ C.q2) w') ∨ (vs 75 = .bool true ∧ ∃ zs, zs <+: C.ys ++ C.q1 ++ C.q2 ∧ C.Jx zs w')) -> Q .normal (over a0 (WIS.map fun k => (k, vs k))) w') :
 (Code.region id ops true).wpIn Fence.wide N Tryz.prog Q a0 w := by
 refine q87 hm WIS (WRI C) (q8s hO.eg) hsl ⟨true, true, ?_⟩ ?_ ?_
 ·refine ⟨fun _ _ => ⟨hN, ?_⟩, (fun h => by cases h), (fun h => by cases h), (fun _ => rfl), (fun _ => rfl), (fun _ => rfl), (fun _ => rfl), (fun _ => rfl), (fun h => by cases h), (fun h => by cases h), (fun h => by cases h), (fun h => by cases h), (fun h => by cases h), (fun h => by cases h), (fun h => by cases h), (fun h => by cases h), (fun h => by cases h), (fun h => by cases h), (fun h => by cases h), (fun h => by cases h), (fun h => by cases h), (fun h => by cases h), (fun h => by cases h), (fun h => by cases h), (fun h => by cases h), (fun h => by cases h), (fun h => by cases h), (fun h => by cases h), (fun h => by cases h), (fun h => by cases h), (fun h => by cases h), (fun h => by cases h), (fun h => by cases h), (fun h => by cases h), (fun h => by cases h), (fun h => by cases h), (fun h => by cases h), (fun h => by cases h), (fun h => by cases h), (fun h => by cases h), (fun h => by cases h), (fun h => by cases h), (fun h => by cases h), (fun h => by cases h), (fun h => by cases h), (fun h => by cases h)⟩
  rw [if_neg (by decide), if_neg (by decide), List.append_nil, List.append_nil]
  exact hJ
 ·intro d a w' i o ho hdi hall hcl hag H
  have hi : i < 37 := by
   rw [<- hO.sz]
   exact (Array.getElem?_eq_some_iff.1 ho).1
  rcases (show i = 0 ∨ i = 1 ∨ i = 2 ∨ i = 3 ∨ i = 4 ∨ i = 5 ∨ i = 6 ∨ i = 7 ∨ i = 8 ∨ i = 9 ∨ i = 10 ∨ i = 11 ∨ i = 12 ∨ i = 13 ∨ i = 14 ∨ i = 15 ∨ i = 16 ∨ i = 17 ∨ i = 18 ∨ i = 19 ∨ i = 20 ∨ i = 21 ∨ i = 22 ∨ i = 23 ∨ i = 24 ∨ i = 25 ∨ i = 26 ∨ i = 27 ∨ i = 28 ∨ i = 29 ∨ i = 30 ∨ i = 31 ∨ i = 32 ∨ i = 33 ∨ i = 34 ∨ i = 35 ∨ i = 36 by omega) with rfl | rfl | rfl | rfl | rfl | rfl | rfl | rfl | rfl | rfl | rfl | rfl | rfl | rfl | rfl | rfl | rfl | rfl | rfl | rfl | rfl | rfl | rfl | rfl | rfl | rfl | rfl | rfl | rfl | rfl | rfl | rfl | rfl | rfl | rfl | rfl | rfl
  ·exact WR.r0 H hO hcl hag hsl HA ho hdi hall
  ·exact WR.r1 H hO hcl hag hsl HA ho hdi hall
  ·exact WR.r2 H hO hcl hag hsl HA ho hdi hall
  ·exact WR.r3 H hO hcl hag hsl HA ho hdi hall
  ·exact WR.r4 H hO hcl hag hsl HA ho hdi hall
  ·exact WR.r5 H hO hcl hag hsl HA ho hdi hall
  ·exact WR.r6 H hO hcl hag hsl HA ho hdi hall
  ·exact WR.r7 H hO hcl hag hsl HA ho hdi hall
  ·exact WR.r8 H hO hcl hag hsl HA ho hdi hall
  ·exact WR.r9 H hO hcl hag hsl HA ho hdi hall
  ·exact WR.r10 H hO hcl hag hsl HA ho hdi hall
  ·exact WR.r11 H hO hcl hag hsl HA ho hdi hall
  ·exact WR.r12 H hO hcl hag hsl HA ho hdi hall
  ·exact WR.r13 H hO hcl hag hsl HA ho hdi hall
  ·exact WR.r14 H hO hcl hag hsl HA hY14 ho hdi hall
  ·exact WR.r15 H hO hcl hag hsl HA ho hdi hall
  ·exact WR.r16 H hO hcl hag hsl HA ho hdi hall
  ·exact WR.r17 H hO hcl hag hsl HA ho hdi hall
  ·exact WR.r18 H hO hcl hag hsl HA ho hdi hall
  ·exact WR.r19 H hO hcl hag hsl HA ho hdi hall
  ·exact WR.r20 H hO hcl hag hsl HA ho hdi hall
  ·exact WR.r21 H hO hcl hag hsl HA ho hdi hall
  ·exact WR.r22 H hO hcl hag hsl HA ho hdi hall
  ·exact WR.r23 H hO hcl hag hsl HA ho hdi hall
  ·exact WR.r24 H hO hcl hag hsl HA ho hdi hall
  ·exact WR.r25 H hO hcl hag hsl HA ho hdi hall
  ·exact WR.r26 H hO hcl hag hsl HA ho hdi hall
  ·exact WR.r27 H hO hcl hag hsl HA ho hdi hall
  ·exact WR.r28 H hO hcl hag hsl HA ho hdi hall
  ·exact WR.r29 H hO hcl hag hsl HA ho hdi hall
  ·exact WR.r30 H hO hcl hag hsl HA ho hdi hall
  ·exact WR.r31 H hO hcl hag hsl HA ho hdi hall
  ·exact WR.r32 H hO hcl hag hsl HA ho hdi hall
  ·exact WR.r33 H hO hcl hag hsl HA hY33 ho hdi hall
  ·exact WR.r34 H hO hcl hag hsl HA ho hdi hall
  ·exact WR.r35 H hO hcl hag hsl HA ho hdi hall
  ·exact WR.r36 H hO hcl hag hsl HA ho hdi hall
 ·rintro d vs w' hall hold ⟨c1, c2, H⟩
  have hd : ∀ k, k < 37 -> d k = true := fun k hk => hall k (by rw [hO.sz]; exact hk)
  have hv := H.v75 (hd 36 (by omega))
  refine hQ vs w' hold ?_
  cases c1
  ·refine .inr ⟨hv, C.ys ++ [C.p1], ?_, H.x1 rfl⟩
   have hb : C.B1 = true := by
    cases hb : C.B1
    ·have := H.b1 hb
     cases this
    ·rfl
   have hq : C.q1 = [C.p1] := if_pos hb
   rw [hq]
   exact List.prefix_append _ _
  ·cases c2
   ·refine .inr ⟨hv, C.ys ++ C.q1 ++ [C.p2], ?_, H.x2 rfl⟩
    have hb : C.B2 = true := by
     cases hb : C.B2
     ·have := H.b2 hb
      cases this
     ·rfl
    have hq : C.q2 = [C.p2] := if_pos hb
    rw [hq]
    exact List.prefix_refl _
   ·have hl := H.lv rfl rfl
    rw [hd 14 (by omega), hd 33 (by omega), if_pos rfl, if_pos rfl] at hl
    exact .inl ⟨hv, hl⟩
end Go.Proofs.YtdanebboiekieaaGreatDoor
namespace Go.Proofs.YtdanebboiekieaaGreatDoor
open Go.RowKit
attribute [local go_sem] Oper.semAt_some
structure VC where
 r : Nat
 pm : Int
 PB : Nat
 Br : Nat
 Bp : Nat
 Rc : Nat
 lp : Nat
 ys : List Int
 J : List Int -> World -> Prop
 Jx : List Int -> World -> Prop
 Need : World -> Prop
 cells : ∀ w, Need w -> w.cell? ⟨Br, 0, none⟩ = some (.int .i64 (r : Int)) ∧ w.cell? ⟨Bp, 0, none⟩ = some (.pointer (some ⟨PB, 0, none⟩)) ∧ w.cell? ⟨PB, 1, none⟩ = some (.int .i64 pm)
 keep : ∀ w w', Need w -> CKeep Rc w w' -> Need w'
def VC.B (C : VC) : Bool := decide ((C.r : Int) < C.pm)
def VC.q (C : VC) : List Int := if C.B = true then [(C.r : Int)] else []
structure ActV (C : VC) (a0 : Act) : Prop where
 t0 : vals a0 0 = .func (.yield C.lp) #[] #[]
 t1 : vals a0 1 = .pointer (some ⟨C.Br, 0, none⟩)
 t2 : vals a0 2 = .pointer (some ⟨C.Bp, 0, none⟩)
def VIS : List Nat := [78, 79, 80, 81, 82, 83, 84, 85, 86, 87, 88, 89, 90]
structure VR (C : VC) (c : Bool) (d : Nat -> Bool) (val : Nat -> Value) (w : World) : Prop where
 lv : c = true -> C.Need w ∧ C.J (C.ys ++ (if d 10 = true then C.q else [])) w
 x1 : c = false -> C.Jx (C.ys ++ [(C.r : Int)]) w
 n1 : d 10 = false -> c = true
 b1 : C.B = false -> c = true
 v78 : d 0 = true -> val 78 = (.int .i64 (C.r : Int))
 v79 : d 1 = true -> val 79 = (.pointer (some ⟨C.PB, 0, none⟩))
 v80 : d 2 = true -> val 80 = (.pointer (some ⟨C.PB, 0, none⟩))
 v81 : d 3 = true -> val 81 = (.pointer (some ⟨C.PB, 0, none⟩))
 v82 : d 4 = true -> val 82 = (.pointer (some ⟨C.PB, 1, none⟩))
 v83 : d 5 = true -> val 83 = (.int .i64 C.pm)
 v84 : d 6 = true -> val 84 = (.bool C.B)
 v85 : d 7 = true -> val 85 = (.bool C.B)
 v86 : d 8 = true -> C.B = true -> val 86 = (.func (.yield C.lp) #[] #[])
 v87 : d 9 = true -> C.B = true -> val 87 = (.int .i64 (C.r : Int))
 v88 : d 10 = true -> C.B = true -> val 88 = (.bool c)
 v89 : d 11 = true -> C.B = true -> val 89 = (.bool (!c))
 v90 : d 12 = true -> val 90 = (.bool (!c))
def VRI (C : VC) (d : Nat -> Bool) (val : Nat -> Value) (w : World) : Prop := ∃ c, VR C c d val w
section
variable {C : VC} {c : Bool} {d : Nat -> Bool} {val : Nat -> Value} {w : World} {a0 a : Act} {Q : Exit -> Act -> World -> Prop} {o : Oper} {ops : Array Oper} {N : Nat}
theorem VR.f0 (H : VR C c d val w) : VR C c (don d 0) (setVl val 78 (.int .i64 (C.r : Int))) w :=
 ⟨fun h1 => by rw [qz (by decide)]; exact H.lv h1, H.x1, fun h => H.n1 (by rwa [qz (by decide)] at h), H.b1, fun _ => q0n, wk1 H.v79, wk1 H.v80, wk1 H.v81, wk1 H.v82, wk1 H.v83, wk1 H.v84, wk1 H.v85, wk2 H.v86, wk2 H.v87, wk2 H.v88, wk2 H.v89, wk1 H.v90⟩
theorem VR.f1 (H : VR C c d val w) : VR C c (don d 1) (setVl val 79 (.pointer (some ⟨C.PB, 0, none⟩))) w :=
 ⟨fun h1 => by rw [qz (by decide)]; exact H.lv h1, H.x1, fun h => H.n1 (by rwa [qz (by decide)] at h), H.b1, wk1 H.v78, fun _ => q0n, wk1 H.v80, wk1 H.v81, wk1 H.v82, wk1 H.v83, wk1 H.v84, wk1 H.v85, wk2 H.v86, wk2 H.v87, wk2 H.v88, wk2 H.v89, wk1 H.v90⟩
theorem VR.f2 (H : VR C c d val w) : VR C c (don d 2) (setVl val 80 (.pointer (some ⟨C.PB, 0, none⟩))) w :=
 ⟨fun h1 => by rw [qz (by decide)]; exact H.lv h1, H.x1, fun h => H.n1 (by rwa [qz (by decide)] at h), H.b1, wk1 H.v78, wk1 H.v79, fun _ => q0n, wk1 H.v81, wk1 H.v82, wk1 H.v83, wk1 H.v84, wk1 H.v85, wk2 H.v86, wk2 H.v87, wk2 H.v88, wk2 H.v89, wk1 H.v90⟩
theorem VR.f3 (H : VR C c d val w) : VR C c (don d 3) (setVl val 81 (.pointer (some ⟨C.PB, 0, none⟩))) w :=
 ⟨fun h1 => by rw [qz (by decide)]; exact H.lv h1, H.x1, fun h => H.n1 (by rwa [qz (by decide)] at h), H.b1, wk1 H.v78, wk1 H.v79, wk1 H.v80, fun _ => q0n, wk1 H.v82, wk1 H.v83, wk1 H.v84, wk1 H.v85, wk2 H.v86, wk2 H.v87, wk2 H.v88, wk2 H.v89, wk1 H.v90⟩
theorem VR.f4 (H : VR C c d val w) : VR C c (don d 4) (setVl val 82 (.pointer (some ⟨C.PB, 1, none⟩))) w :=
 ⟨fun h1 => by rw [qz (by decide)]; exact H.lv h1, H.x1, fun h => H.n1 (by rwa [qz (by decide)] at h), H.b1, wk1 H.v78, wk1 H.v79, wk1 H.v80, wk1 H.v81, fun _ => q0n, wk1 H.v83, wk1 H.v84, wk1 H.v85, wk2 H.v86, wk2 H.v87, wk2 H.v88, wk2 H.v89, wk1 H.v90⟩
theorem VR.f5 (H : VR C c d val w) : VR C c (don d 5) (setVl val 83 (.int .i64 C.pm)) w :=
 ⟨fun h1 => by rw [qz (by decide)]; exact H.lv h1, H.x1, fun h => H.n1 (by rwa [qz (by decide)] at h), H.b1, wk1 H.v78, wk1 H.v79, wk1 H.v80, wk1 H.v81, wk1 H.v82, fun _ => q0n, wk1 H.v84, wk1 H.v85, wk2 H.v86, wk2 H.v87, wk2 H.v88, wk2 H.v89, wk1 H.v90⟩
theorem VR.f6 (H : VR C c d val w) : VR C c (don d 6) (setVl val 84 (.bool C.B)) w :=
 ⟨fun h1 => by rw [qz (by decide)]; exact H.lv h1, H.x1, fun h => H.n1 (by rwa [qz (by decide)] at h), H.b1, wk1 H.v78, wk1 H.v79, wk1 H.v80, wk1 H.v81, wk1 H.v82, wk1 H.v83, fun _ => q0n, wk1 H.v85, wk2 H.v86, wk2 H.v87, wk2 H.v88, wk2 H.v89, wk1 H.v90⟩
theorem VR.f7 (H : VR C c d val w) : VR C c (don d 7) (setVl val 85 (.bool C.B)) w :=
 ⟨fun h1 => by rw [qz (by decide)]; exact H.lv h1, H.x1, fun h => H.n1 (by rwa [qz (by decide)] at h), H.b1, wk1 H.v78, wk1 H.v79, wk1 H.v80, wk1 H.v81, wk1 H.v82, wk1 H.v83, wk1 H.v84, fun _ => q0n, wk2 H.v86, wk2 H.v87, wk2 H.v88, wk2 H.v89, wk1 H.v90⟩
theorem VR.f8 (H : VR C c d val w) (g0 : C.B = true) : VR C c (don d 8) (setVl val 86 (.func (.yield C.lp) #[] #[])) w :=
 ⟨fun h1 => by rw [qz (by decide)]; exact H.lv h1, H.x1, fun h => H.n1 (by rwa [qz (by decide)] at h), H.b1, wk1 H.v78, wk1 H.v79, wk1 H.v80, wk1 H.v81, wk1 H.v82, wk1 H.v83, wk1 H.v84, wk1 H.v85, fun _ _ => q0n, wk2 H.v87, wk2 H.v88, wk2 H.v89, wk1 H.v90⟩
theorem VR.u8 (H : VR C c d val w) (g : C.B = false) : VR C c (don d 8) (setVl val 86 undef) w :=
 ⟨fun h1 => by rw [qz (by decide)]; exact H.lv h1, H.x1, fun h => H.n1 (by rwa [qz (by decide)] at h), H.b1, wk1 H.v78, wk1 H.v79, wk1 H.v80, wk1 H.v81, wk1 H.v82, wk1 H.v83, wk1 H.v84, wk1 H.v85, fun h0 h1 => absurd h1 (by rw [g]; decide), wk2 H.v87, wk2 H.v88, wk2 H.v89, wk1 H.v90⟩
theorem VR.f9 (H : VR C c d val w) (g0 : C.B = true) : VR C c (don d 9) (setVl val 87 (.int .i64 (C.r : Int))) w :=
 ⟨fun h1 => by rw [qz (by decide)]; exact H.lv h1, H.x1, fun h => H.n1 (by rwa [qz (by decide)] at h), H.b1, wk1 H.v78, wk1 H.v79, wk1 H.v80, wk1 H.v81, wk1 H.v82, wk1 H.v83, wk1 H.v84, wk1 H.v85, wk2 H.v86, fun _ _ => q0n, wk2 H.v88, wk2 H.v89, wk1 H.v90⟩
theorem VR.u9 (H : VR C c d val w) (g : C.B = false) : VR C c (don d 9) (setVl val 87 undef) w :=
 ⟨fun h1 => by rw [qz (by decide)]; exact H.lv h1, H.x1, fun h => H.n1 (by rwa [qz (by decide)] at h), H.b1, wk1 H.v78, wk1 H.v79, wk1 H.v80, wk1 H.v81, wk1 H.v82, wk1 H.v83, wk1 H.v84, wk1 H.v85, wk2 H.v86, fun h0 h1 => absurd h1 (by rw [g]; decide), wk2 H.v88, wk2 H.v89, wk1 H.v90⟩
theorem VR.f11 (H : VR C c d val w) (g0 : C.B = true) : VR C c (don d 11) (setVl val 89 (.bool (!c))) w :=
 ⟨fun h1 => by rw [qz (by decide)]; exact H.lv h1, H.x1, fun h => H.n1 (by rwa [qz (by decide)] at h), H.b1, wk1 H.v78, wk1 H.v79, wk1 H.v80, wk1 H.v81, wk1 H.v82, wk1 H.v83, wk1 H.v84, wk1 H.v85, wk2 H.v86, wk2 H.v87, wk2 H.v88, fun _ _ => q0n, wk1 H.v90⟩
theorem VR.u11 (H : VR C c d val w) (g : C.B = false) : VR C c (don d 11) (setVl val 89 undef) w :=
 ⟨fun h1 => by rw [qz (by decide)]; exact H.lv h1, H.x1, fun h => H.n1 (by rwa [qz (by decide)] at h), H.b1, wk1 H.v78, wk1 H.v79, wk1 H.v80, wk1 H.v81, wk1 H.v82, wk1 H.v83, wk1 H.v84, wk1 H.v85, wk2 H.v86, wk2 H.v87, wk2 H.v88, fun h0 h1 => absurd h1 (by rw [g]; decide), wk1 H.v90⟩
theorem VR.f12 (H : VR C c d val w) : VR C c (don d 12) (setVl val 90 (.bool (!c))) w :=
 ⟨fun h1 => by rw [qz (by decide)]; exact H.lv h1, H.x1, fun h => H.n1 (by rwa [qz (by decide)] at h), H.b1, wk1 H.v78, wk1 H.v79, wk1 H.v80, wk1 H.v81, wk1 H.v82, wk1 H.v83, wk1 H.v84, wk1 H.v85, wk2 H.v86, wk2 H.v87, wk2 H.v88, wk2 H.v89, fun _ => q0n⟩
theorem VR.u10 (H : VR C c d val w) (g : C.B = false) : VR C c (don d 10) (setVl val 88 undef) w := by
 have hq : C.q = [] := if_neg (by rw [g]; decide)
 refine ⟨fun h1 => ?_, H.x1, fun _ => H.b1 g, H.b1, wk1 H.v78, wk1 H.v79, wk1 H.v80, wk1 H.v81, wk1 H.v82, wk1 H.v83, wk1 H.v84, wk1 H.v85, wk2 H.v86, wk2 H.v87, fun h0 h1 => absurd h1 (by rw [g]; decide), wk2 H.v89, wk1 H.v90⟩
 have h3 := H.lv h1
 rw [hq, ite_self] at h3 ⊢
 exact h3
theorem VR.f10 (H : VR C c d val w) (hz : ∀ j, 10 ≤ j -> j < 13 -> d j = false) (g0 : C.B = true) {w' : World} {b : Bool} (ht : b = true -> C.Need w' ∧ C.J (C.ys ++ [(C.r : Int)]) w') (hf : b = false -> C.Jx (C.ys ++ [(C.r : Int)]) w') : VR C b (don d 10) (setVl val 88 (.bool b)) w' := by
 have hq : C.q = [(C.r : Int)] := if_pos g0
 refine ⟨fun h1 => ?_, hf, fun h => absurd h (by rw [q82]; decide), fun h => absurd h (by rw [g0]; decide), wk1 H.v78, wk1 H.v79, wk1 H.v80, wk1 H.v81, wk1 H.v82, wk1 H.v83, wk1 H.v84, wk1 H.v85, wk2 H.v86, wk2 H.v87, fun _ _ => q0n, fun h0 => absurd (q0g (by decide) h0) (by rw [hz 11 (by omega) (by omega)]; decide), fun h0 => absurd (q0g (by decide) h0) (by rw [hz 12 (by omega) (by omega)]; decide)⟩
 rw [q82, if_pos rfl, hq]
 exact ht h1
theorem VR.q0 (H : VR C c d (vals a) w) (hag : Ag VIS a0 a) (HA : ActV C a0) (hw : Region.wanted o (yielded ops a.tmps) = true) (hdst : o.dst = some 78) (z10 : d 10 = false) (hop : o.op = .load 3 (.tmp 1)) : StepIn Fence.wide N Tryz.prog ops Q VIS a0 (VRI C) d 0 o a w := by
 have hN := (H.lv (H.n1 z10)).1
 obtain ⟨m0, m1, m2⟩ := C.cells w hN
 have e1 : a.eval (.tmp 1) = _ := (hag.old (by decide)).trans HA.t1
 refine qg (v := (.int .i64 (C.r : Int))) (w' := w) hag hdst (by decide) hw (fun _ _ => trivial) (by rw [hop]; intro c h; cases h) (by
  simp only [execOp, hop, e1]
  simp [go_sem, m0]) ⟨c, H.f0⟩
theorem VR.q1 (H : VR C c d (vals a) w) (hag : Ag VIS a0 a) (HA : ActV C a0) (hw : Region.wanted o (yielded ops a.tmps) = true) (hdst : o.dst = some 79) (z10 : d 10 = false) (hop : o.op = .load 93 (.tmp 2)) : StepIn Fence.wide N Tryz.prog ops Q VIS a0 (VRI C) d 1 o a w := by
 have hN := (H.lv (H.n1 z10)).1
 obtain ⟨m0, m1, m2⟩ := C.cells w hN
 have e2 : a.eval (.tmp 2) = _ := (hag.old (by decide)).trans HA.t2
 refine qg (v := (.pointer (some ⟨C.PB, 0, none⟩))) (w' := w) hag hdst (by decide) hw (fun _ _ => trivial) (by rw [hop]; intro c h; cases h) (by
  simp only [execOp, hop, e2]
  simp [go_sem, m1]) ⟨c, H.f1⟩
theorem VR.q2 (H : VR C c d (vals a) w) (hag : Ag VIS a0 a) (HA : ActV C a0) (hw : Region.wanted o (yielded ops a.tmps) = true) (hdst : o.dst = some 80) (h1 : d 1 = true) (hop : o.op = .nilCheck (.tmp 79)) : StepIn Fence.wide N Tryz.prog ops Q VIS a0 (VRI C) d 2 o a w := by
 have e79 : a.eval (.tmp 79) = _ := H.v79 h1
 refine qg (v := (.pointer (some ⟨C.PB, 0, none⟩))) (w' := w) hag hdst (by decide) hw (fun _ _ => trivial) (by rw [hop]; intro c h; cases h) (by
  simp only [execOp, hop, e79]
  simp [go_sem]) ⟨c, H.f2⟩
theorem VR.q3 (H : VR C c d (vals a) w) (hag : Ag VIS a0 a) (HA : ActV C a0) (hw : Region.wanted o (yielded ops a.tmps) = true) (hdst : o.dst = some 81) (h2 : d 2 = true) (hop : o.op = .fieldAddr 96 (.tmp 80) 0) : StepIn Fence.wide N Tryz.prog ops Q VIS a0 (VRI C) d 3 o a w := by
 have e80 : a.eval (.tmp 80) = _ := H.v80 h2
 refine qg (v := (.pointer (some ⟨C.PB, 0, none⟩))) (w' := w) hag hdst (by decide) hw (fun _ _ => trivial) (by rw [hop]; intro c h; cases h) (by
  simp only [execOp, hop, e80]
  simp [go_sem]) ⟨c, H.f3⟩
theorem VR.q4 (H : VR C c d (vals a) w) (hag : Ag VIS a0 a) (HA : ActV C a0) (hw : Region.wanted o (yielded ops a.tmps) = true) (hdst : o.dst = some 82) (h3 : d 3 = true) (hop : o.op = .fieldAddr 56 (.tmp 81) 1) : StepIn Fence.wide N Tryz.prog ops Q VIS a0 (VRI C) d 4 o a w := by
 have e81 : a.eval (.tmp 81) = _ := H.v81 h3
 refine qg (v := (.pointer (some ⟨C.PB, 1, none⟩))) (w' := w) hag hdst (by decide) hw (fun _ _ => trivial) (by rw [hop]; intro c h; cases h) (by
  simp only [execOp, hop, e81]
  simp [go_sem]) ⟨c, H.f4⟩
theorem VR.q5 (H : VR C c d (vals a) w) (hag : Ag VIS a0 a) (HA : ActV C a0) (hw : Region.wanted o (yielded ops a.tmps) = true) (hdst : o.dst = some 83) (h4 : d 4 = true) (z10 : d 10 = false) (hop : o.op = .load 3 (.tmp 82)) : StepIn Fence.wide N Tryz.prog ops Q VIS a0 (VRI C) d 5 o a w := by
 have hN := (H.lv (H.n1 z10)).1
 obtain ⟨m0, m1, m2⟩ := C.cells w hN
 have e82 : a.eval (.tmp 82) = _ := H.v82 h4
 refine qg (v := (.int .i64 C.pm)) (w' := w) hag hdst (by decide) hw (fun _ _ => trivial) (by rw [hop]; intro c h; cases h) (by
  simp only [execOp, hop, e82]
  simp [go_sem, m2]) ⟨c, H.f5⟩
theorem VR.q6 (H : VR C c d (vals a) w) (hag : Ag VIS a0 a) (HA : ActV C a0) (hw : Region.wanted o (yielded ops a.tmps) = true) (hdst : o.dst = some 84) (h0 : d 0 = true) (h5 : d 5 = true) (hop : o.op = .binOp .lss 3 (.tmp 78) (.tmp 83) 3) : StepIn Fence.wide N Tryz.prog ops Q VIS a0 (VRI C) d 6 o a w := by
 have e78 : a.eval (.tmp 78) = _ := H.v78 h0
 have e83 : a.eval (.tmp 83) = _ := H.v83 h5
 refine qg (v := (.bool C.B)) (w' := w) hag hdst (by decide) hw (fun _ _ => trivial) (by rw [hop]; intro c h; cases h) (by
  simp only [execOp, hop, e78, e83]
  simp [go_sem, VC.B]) ⟨c, H.f6⟩
theorem VR.q7 (H : VR C c d (vals a) w) (hag : Ag VIS a0 a) (HA : ActV C a0) (hw : Region.wanted o (yielded ops a.tmps) = true) (hdst : o.dst = some 85) (h6 : d 6 = true) (hop : o.op = .move (.tmp 84)) : StepIn Fence.wide N Tryz.prog ops Q VIS a0 (VRI C) d 7 o a w := by
 have e84 : a.eval (.tmp 84) = _ := H.v84 h6
 refine qg (v := (.bool C.B)) (w' := w) hag hdst (by decide) hw (fun _ _ => trivial) (by rw [hop]; intro c h; cases h) (by
  simp only [execOp, hop, e84]
  rfl) ⟨c, H.f7⟩
theorem VR.q8 (H : VR C c d (vals a) w) (hag : Ag VIS a0 a) (HA : ActV C a0) (hw : Region.wanted o (yielded ops a.tmps) = true) (hdst : o.dst = some 86) (g0 : C.B = true) (hop : o.op = .move (.tmp 0)) : StepIn Fence.wide N Tryz.prog ops Q VIS a0 (VRI C) d 8 o a w := by
 have e0 : a.eval (.tmp 0) = _ := (hag.old (by decide)).trans HA.t0
 refine qg (v := (.func (.yield C.lp) #[] #[])) (w' := w) hag hdst (by decide) hw (fun _ _ => trivial) (by rw [hop]; intro c h; cases h) (by
  simp only [execOp, hop, e0]
  rfl) ⟨c, H.f8 g0⟩
theorem VR.q9 (H : VR C c d (vals a) w) (hag : Ag VIS a0 a) (HA : ActV C a0) (hw : Region.wanted o (yielded ops a.tmps) = true) (hdst : o.dst = some 87) (g0 : C.B = true) (z10 : d 10 = false) (hop : o.op = .load 3 (.tmp 1)) : StepIn Fence.wide N Tryz.prog ops Q VIS a0 (VRI C) d 9 o a w := by
 have hN := (H.lv (H.n1 z10)).1
 obtain ⟨m0, m1, m2⟩ := C.cells w hN
 have e1 : a.eval (.tmp 1) = _ := (hag.old (by decide)).trans HA.t1
 refine qg (v := (.int .i64 (C.r : Int))) (w' := w) hag hdst (by decide) hw (fun _ _ => trivial) (by rw [hop]; intro c h; cases h) (by
  simp only [execOp, hop, e1]
  simp [go_sem, m0]) ⟨c, H.f9 g0⟩
theorem VR.q11 (H : VR C c d (vals a) w) (hag : Ag VIS a0 a) (HA : ActV C a0) (hw : Region.wanted o (yielded ops a.tmps) = true) (hdst : o.dst = some 89) (h10 : d 10 = true) (g0 : C.B = true) (hop : o.op = .unOp .not 4 (.tmp 88)) : StepIn Fence.wide N Tryz.prog ops Q VIS a0 (VRI C) d 11 o a w := by
 have e88 : a.eval (.tmp 88) = _ := H.v88 h10 g0
 refine qg (v := (.bool (!c))) (w' := w) hag hdst (by decide) hw (fun _ _ => trivial) (by rw [hop]; intro c h; cases h) (by
  simp only [execOp, hop, e88]
  simp [go_sem]) ⟨c, H.f11 g0⟩
theorem VR.q12 (H : VR C c d (vals a) w) (hag : Ag VIS a0 a) (HA : ActV C a0) (hw : Region.wanted o (yielded ops a.tmps) = true) (hdst : o.dst = some 90) (h7 : d 7 = true) (h11 : d 11 = true) (hop : o.op = .pick (.tmp 85) (.tmp 89) (.const (.bool false))) : StepIn Fence.wide N Tryz.prog ops Q VIS a0 (VRI C) d 12 o a w := by
 have e85 : a.eval (.tmp 85) = _ := H.v85 h7
 refine qg (v := .bool (!c)) (w' := w) hag hdst (by decide) hw (fun _ _ => trivial) (by rw [hop]; intro c h; cases h) (by
  cases hb : C.B
  ·rw [hb] at e85
   have := H.b1 hb
   subst this
   simp only [execOp, hop, e85]
   rfl
  ·rw [hb] at e85
   have e89 : a.eval (.tmp 89) = _ := H.v89 h11 hb
   simp only [execOp, hop, e85, e89]
   rfl) ⟨c, H.f12⟩
theorem VR.s8 (H : VR C c d (vals a) w) (hag : Ag VIS a0 a) (hw : Region.wanted o (yielded ops a.tmps) = false) (hdst : o.dst = some 86) (g : C.B = false) : StepIn Fence.wide N Tryz.prog ops Q VIS a0 (VRI C) d 8 o a w :=
 ql hag hdst (by decide) hw (fun _ _ => trivial) ⟨c, H.u8 g⟩
theorem VR.s9 (H : VR C c d (vals a) w) (hag : Ag VIS a0 a) (hw : Region.wanted o (yielded ops a.tmps) = false) (hdst : o.dst = some 87) (g : C.B = false) : StepIn Fence.wide N Tryz.prog ops Q VIS a0 (VRI C) d 9 o a w :=
 ql hag hdst (by decide) hw (fun _ _ => trivial) ⟨c, H.u9 g⟩
theorem VR.s10 (H : VR C c d (vals a) w) (hag : Ag VIS a0 a) (hw : Region.wanted o (yielded ops a.tmps) = false) (hdst : o.dst = some 88) (g : C.B = false) : StepIn Fence.wide N Tryz.prog ops Q VIS a0 (VRI C) d 10 o a w :=
 ql hag hdst (by decide) hw (fun _ _ => trivial) ⟨c, H.u10 g⟩
theorem VR.s11 (H : VR C c d (vals a) w) (hag : Ag VIS a0 a) (hw : Region.wanted o (yielded ops a.tmps) = false) (hdst : o.dst = some 89) (g : C.B = false) : StepIn Fence.wide N Tryz.prog ops Q VIS a0 (VRI C) d 11 o a w :=
 ql hag hdst (by decide) hw (fun _ _ => trivial) ⟨c, H.u11 g⟩
def qeu (C : VC) (N : Nat) (ys : List Int) (v : Int) : Prop := ∀ W, C.J ys W -> YieldAt Fence.wide (N - 1) Tryz.prog C.lp #[.int .i64 v] W fun e W' => (e = .returned (.bool true) ∧ C.J (ys ++ [v]) W' ∧ CKeep C.Rc W W') ∨ (e = .returned (.bool false) ∧ C.Jx (ys ++ [v]) W')
theorem VR.q10 (H : VR C c d (vals a) w) (hag : Ag VIS a0 a) (HA : ActV C a0) (hw : Region.wanted o (yielded ops a.tmps) = true) (hdst : o.dst = some 88) (h8 : d 8 = true) (h9 : d 9 = true) (g0 : C.B = true) (hz : ∀ j, 10 ≤ j -> j < 13 -> d j = false)
 (hY : qeu C N C.ys C.r) (hop : o.op = .call { callee := .value (.tmp 86), args := #[.tmp 87], argTypes := #[3] }) : StepIn Fence.wide N Tryz.prog ops Q VIS a0 (VRI C) d 10 o a w := by
 have e1 : a.eval (.tmp 86) = _ := H.v86 h8 g0
 have e2 : a.eval (.tmp 87) = _ := H.v87 h9 g0
 have hL := H.lv (H.n1 (hz 10 (by omega) (by omega)))
 rw [hz 10 (by omega) (by omega), if_neg (by decide), List.append_nil] at hL
 obtain ⟨fn5, tm5, as5, bd5, hy5, hR5⟩ := hY w hL.2
 refine q4h hag hdst (by decide) hw (fun _ _ => trivial) (by rw [hop]; intro c h; cases h) (fun h => by cases h) (by
  simp only [execOp, hop, resolve, e1, e2]
  simp [go_sem, e1, (by rw [<- Array.getD_eq_getD_getElem?]; exact e2 : a.tmps[87]?.getD undef = .int .i64 (C.r : Int)), hy5]) hR5 (fun e w' he => ?_)
 rcases he with ⟨rfl, h1, h2⟩ | ⟨rfl, h1⟩
 ·exact ⟨_, rfl, true, H.f10 hz g0 (fun _ => ⟨C.keep w w' hL.1 h2, h1⟩) (fun h => by cases h)⟩
 ·exact ⟨_, rfl, false, H.f10 hz g0 (fun h => by cases h) (fun _ => h1)⟩
end
structure V11Ops (ops : Array Oper) : Prop where
 sz : ops.size = 13
 eg : qc8 ops = true
 o0 : OpIs ops 0 78 none (.load 3 (.tmp 1)) []
 o1 : OpIs ops 1 79 none (.load 93 (.tmp 2)) []
 o2 : OpIs ops 2 80 none (.nilCheck (.tmp 79)) [1]
 o3 : OpIs ops 3 81 none (.fieldAddr 96 (.tmp 80) 0) [2]
 o4 : OpIs ops 4 82 none (.fieldAddr 56 (.tmp 81) 1) [3]
 o5 : OpIs ops 5 83 none (.load 3 (.tmp 82)) [4]
 o6 : OpIs ops 6 84 none (.binOp .lss 3 (.tmp 78) (.tmp 83) 3) [0, 5]
 o7 : OpIs ops 7 85 none (.move (.tmp 84)) [6]
 o8 : OpIs ops 8 86 (some (7, true)) (.move (.tmp 0)) [7]
 o9 : OpIs ops 9 87 (some (7, true)) (.load 3 (.tmp 1)) [7]
 o10 : OpIs ops 10 88 (some (7, true)) (.call { callee := .value (.tmp 86), args := #[.tmp 87], argTypes := #[3] }) [8, 9, 7]
 o11 : OpIs ops 11 89 (some (7, true)) (.unOp .not 4 (.tmp 88)) [10, 7]
 o12 : OpIs ops 12 90 none (.pick (.tmp 85) (.tmp 89) (.const (.bool false))) [7, 11]
theorem hzV {ops : Array Oper} (hO : V11Ops ops) {d : Nat -> Bool} (hcl : q58 ops d) (hdi : d 10 = false) : ∀ j, 10 ≤ j -> j < 13 -> d j = false := by
 intro j h1 h2
 rcases (show j = 10 ∨ j = 11 ∨ j = 12 by omega) with rfl | rfl | rfl
 ·exact hdi
 ·exact qo (fun h => (hO.o11.deps hcl h 10 (by decide))) hdi
 ·exact qo (fun h => (hO.o11.deps hcl (hO.o12.deps hcl h 11 (by decide)) 10 (by decide))) hdi
theorem qe8 {C : VC} {N id : Nat} {ops : Array Oper} {Q : Exit -> Act -> World -> Prop} {a0 : Act} {w : World} (hm : (Tryz.prog).follows .mixedOrders = true) (hO : V11Ops ops) (hsl : ∀ k ∈ VIS, k < a0.tmps.size) (HA : ActV C a0) (hN : C.Need w.drew) (hJ : C.J C.ys w.drew)
 (hY : C.B = true -> qeu C N C.ys C.r)
 (hQ : ∀ (vs : Nat -> Value) w', (∀ k, k ∉ VIS -> vs k = vals a0 k) -> ((vs 90 = .bool false ∧ C.Need w' ∧ C.J (C.ys ++ C.q) w') ∨ (vs 90 = .bool true ∧ ∃ zs, zs <+: C.ys ++ C.q ∧ C.Jx zs w')) -> Q .normal (over a0 (VIS.map fun k => (k, vs k))) w') :
 (Code.region id ops true).wpIn Fence.wide N Tryz.prog Q a0 w := by
 refine q87 hm VIS (VRI C) (q8s hO.eg) hsl ⟨true, ?_⟩ ?_ ?_
 ·refine ⟨fun _ => ⟨hN, ?_⟩, (fun h => by cases h), (fun _ => rfl), (fun _ => rfl), (fun h => by cases h), (fun h => by cases h), (fun h => by cases h), (fun h => by cases h), (fun h => by cases h), (fun h => by cases h), (fun h => by cases h), (fun h => by cases h), (fun h => by cases h), (fun h => by cases h), (fun h => by cases h), (fun h => by cases h), (fun h => by cases h)⟩
  rw [if_neg (by decide), List.append_nil]
  exact hJ
 ·rintro d a w' i o ho hdi hall hcl hag ⟨c, H⟩
  have hi : i < 13 := by
   rw [<- hO.sz]
   exact (Array.getElem?_eq_some_iff.1 ho).1
  rcases (show i = 0 ∨ i = 1 ∨ i = 2 ∨ i = 3 ∨ i = 4 ∨ i = 5 ∨ i = 6 ∨ i = 7 ∨ i = 8 ∨ i = 9 ∨ i = 10 ∨ i = 11 ∨ i = 12 by omega) with rfl | rfl | rfl | rfl | rfl | rfl | rfl | rfl | rfl | rfl | rfl | rfl | rfl
  ·obtain ⟨h1, h2, h3, h4⟩ := hO.o0.all ho hall
   exact H.q0 hag HA (q00 h2) h1 (qo (fun h => (hO.o6.deps hcl (hO.o7.deps hcl (hO.o10.deps hcl h 7 (by decide)) 6 (by decide)) 0 (by decide))) hdi) h3
  ·obtain ⟨h1, h2, h3, h4⟩ := hO.o1.all ho hall
   exact H.q1 hag HA (q00 h2) h1 (qo (fun h => (hO.o2.deps hcl (hO.o3.deps hcl (hO.o4.deps hcl (hO.o5.deps hcl (hO.o6.deps hcl (hO.o7.deps hcl (hO.o10.deps hcl h 7 (by decide)) 6 (by decide)) 5 (by decide)) 4 (by decide)) 3 (by decide)) 2 (by decide)) 1 (by decide))) hdi) h3
  ·obtain ⟨h1, h2, h3, h4⟩ := hO.o2.all ho hall
   exact H.q2 hag HA (q00 h2) h1 (h4 1 (by decide)) h3
  ·obtain ⟨h1, h2, h3, h4⟩ := hO.o3.all ho hall
   exact H.q3 hag HA (q00 h2) h1 (h4 2 (by decide)) h3
  ·obtain ⟨h1, h2, h3, h4⟩ := hO.o4.all ho hall
   exact H.q4 hag HA (q00 h2) h1 (h4 3 (by decide)) h3
  ·obtain ⟨h1, h2, h3, h4⟩ := hO.o5.all ho hall
   exact H.q5 hag HA (q00 h2) h1 (h4 4 (by decide)) (qo (fun h => (hO.o6.deps hcl (hO.o7.deps hcl (hO.o10.deps hcl h 7 (by decide)) 6 (by decide)) 5 (by decide))) hdi) h3
  ·obtain ⟨h1, h2, h3, h4⟩ := hO.o6.all ho hall
   exact H.q6 hag HA (q00 h2) h1 (h4 0 (by decide)) (h4 5 (by decide)) h3
  ·obtain ⟨h1, h2, h3, h4⟩ := hO.o7.all ho hall
   exact H.q7 hag HA (q00 h2) h1 (h4 6 (by decide)) h3
  ·obtain ⟨h1, h2, h3, h4⟩ := hO.o8.all ho hall
   have hwn := qs h2 hO.o7 (by rw [hag.sz]; exact hsl 85 (by decide)) (H.v85 (h4 7 (by decide)))
   cases hb : C.B
   ·rw [hb] at hwn
    exact H.s8 hag hwn h1 hb
   ·rw [hb] at hwn
    exact H.q8 hag HA hwn h1 hb h3
  ·obtain ⟨h1, h2, h3, h4⟩ := hO.o9.all ho hall
   have hwn := qs h2 hO.o7 (by rw [hag.sz]; exact hsl 85 (by decide)) (H.v85 (h4 7 (by decide)))
   cases hb : C.B
   ·rw [hb] at hwn
    exact H.s9 hag hwn h1 hb
   ·rw [hb] at hwn
    exact H.q9 hag HA hwn h1 hb (qo (fun h => (hO.o10.deps hcl h 9 (by decide))) hdi) h3
  ·obtain ⟨h1, h2, h3, h4⟩ := hO.o10.all ho hall
   have hwn := qs h2 hO.o7 (by rw [hag.sz]; exact hsl 85 (by decide)) (H.v85 (h4 7 (by decide)))
   cases hb : C.B
   ·rw [hb] at hwn
    exact H.s10 hag hwn h1 hb
   ·rw [hb] at hwn
    exact H.q10 hag HA hwn h1 (h4 8 (by decide)) (h4 9 (by decide)) hb (hzV hO hcl hdi) (hY hb) h3
  ·obtain ⟨h1, h2, h3, h4⟩ := hO.o11.all ho hall
   have hwn := qs h2 hO.o7 (by rw [hag.sz]; exact hsl 85 (by decide)) (H.v85 (h4 7 (by decide)))
   cases hb : C.B
   ·rw [hb] at hwn
    exact H.s11 hag hwn h1 hb
   ·rw [hb] at hwn
    exact H.q11 hag HA hwn h1 (h4 10 (by decide)) hb h3
  ·obtain ⟨h1, h2, h3, h4⟩ := hO.o12.all ho hall
   exact H.q12 hag HA (q00 h2) h1 (h4 7 (by decide)) (h4 11 (by decide)) h3
 ·rintro d vs w' hall hold ⟨c, H⟩
  have hd : ∀ k, k < 13 -> d k = true := fun k hk => hall k (by rw [hO.sz]; exact hk)
  have hv := H.v90 (hd 12 (by omega))
  refine hQ vs w' hold ?_
  cases c
  ·refine .inr ⟨hv, C.ys ++ [(C.r : Int)], ?_, H.x1 rfl⟩
   have hb : C.B = true := by
    cases hb : C.B
    ·have := H.b1 hb
     cases this
    ·rfl
   have hq : C.q = [(C.r : Int)] := if_pos hb
   rw [hq]
   exact List.prefix_refl _
  ·have hl := H.lv rfl
   rw [hd 10 (by omega), if_pos rfl] at hl
   exact .inl ⟨hv, hl⟩
end Go.Proofs.YtdanebboiekieaaGreatDoor
