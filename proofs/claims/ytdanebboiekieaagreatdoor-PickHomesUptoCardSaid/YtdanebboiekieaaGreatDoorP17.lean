/- The walks, part 17. -/
import Derived.Test.YtdanebboiekieaaGreatDoorP16
set_option linter.unusedSimpArgs false
set_option linter.unusedVariables false
set_option maxRecDepth 100000
set_option maxHeartbeats 16000000
namespace Go.Proofs.YtdanebboiekieaaGreatDoor
open Go.RowKit
attribute [local go_sem] Oper.semAt_some
structure W8Ops (ops : Array Oper) : Prop where
 sz : ops.size = 37
 eg : qex ops = true
 o0 : OpIs ops 0 39 none (.fieldAddr 71 (.tmp 8) 2) []
 o1 : OpIs ops 1 40 none (.load 64 (.tmp 39)) [0]
 o2 : OpIs ops 2 41 none (.load 64 (.tmp 4)) []
 o3 : OpIs ops 3 42 none (.binOp .eql 64 (.tmp 40) (.tmp 41) 64) [1, 2]
 o4 : OpIs ops 4 43 none (.move (.tmp 42)) [3]
 o5 : OpIs ops 5 44 (some (4, true)) (.move (.tmp 0)) [4]
 o6 : OpIs ops 6 45 (some (4, true)) (.load 93 (.tmp 2)) [4]
 o7 : OpIs ops 7 46 (some (4, true)) (.nilCheck (.tmp 45)) [6, 4]
 o8 : OpIs ops 8 47 (some (4, true)) (.fieldAddr 96 (.tmp 46) 4) [7, 4]
 o9 : OpIs ops 9 48 (some (4, true)) (.load 26 (.tmp 47)) [8, 4]
 o10 : OpIs ops 10 49 (some (4, true)) (.fieldAddr 71 (.tmp 8) 1) [4]
 o11 : OpIs ops 11 50 (some (4, true)) (.load 3 (.tmp 49)) [10, 4]
 o12 : OpIs ops 12 51 (some (4, true)) (.indexAddr 26 (.tmp 48) (.tmp 50)) [9, 11, 4]
 o13 : OpIs ops 13 52 (some (4, true)) (.load 3 (.tmp 51)) [12, 4]
 o14 : OpIs ops 14 53 (some (4, true)) (.call { callee := .value (.tmp 44), args := #[.tmp 52], argTypes := #[3] }) [5, 13, 4]
 o15 : OpIs ops 15 54 (some (4, true)) (.unOp .not 4 (.tmp 53)) [14, 4]
 o16 : OpIs ops 16 55 none (.pick (.tmp 43) (.tmp 54) (.const (.bool false))) [4, 15]
 o17 : OpIs ops 17 56 none (.move (.tmp 55)) [16, 14]
 o18 : OpIs ops 18 57 (some (17, false)) (.fieldAddr 71 (.tmp 8) 1) [17]
 o19 : OpIs ops 19 58 (some (17, false)) (.load 3 (.tmp 57)) [18, 17]
 o20 : OpIs ops 20 59 (some (17, false)) (.load 3 (.tmp 1)) [17]
 o21 : OpIs ops 21 60 (some (17, false)) (.binOp .eql 3 (.tmp 58) (.tmp 59) 3) [19, 20, 17]
 o22 : OpIs ops 22 61 (some (17, false)) (.move (.tmp 60)) [21, 17]
 o23 : OpIs ops 23 62 (some (22, true)) (.move (.tmp 0)) [22]
 o24 : OpIs ops 24 63 (some (22, true)) (.load 93 (.tmp 2)) [22]
 o25 : OpIs ops 25 64 (some (22, true)) (.nilCheck (.tmp 63)) [24, 22]
 o26 : OpIs ops 26 65 (some (22, true)) (.fieldAddr 96 (.tmp 64) 4) [25, 22]
 o27 : OpIs ops 27 66 (some (22, true)) (.load 26 (.tmp 65)) [26, 22]
 o28 : OpIs ops 28 67 (some (22, true)) (.fieldAddr 71 (.tmp 8) 2) [22]
 o29 : OpIs ops 29 68 (some (22, true)) (.fieldAddr 64 (.tmp 67) 1) [28, 22]
 o30 : OpIs ops 30 69 (some (22, true)) (.load 3 (.tmp 68)) [29, 22]
 o31 : OpIs ops 31 70 (some (22, true)) (.indexAddr 26 (.tmp 66) (.tmp 69)) [27, 30, 22]
 o32 : OpIs ops 32 71 (some (22, true)) (.load 3 (.tmp 70)) [31, 22]
 o33 : OpIs ops 33 72 (some (22, true)) (.call { callee := .value (.tmp 62), args := #[.tmp 71], argTypes := #[3] }) [23, 32, 22]
 o34 : OpIs ops 34 73 (some (22, true)) (.unOp .not 4 (.tmp 72)) [33, 22]
 o35 : OpIs ops 35 74 (some (17, false)) (.pick (.tmp 61) (.tmp 73) (.const (.bool false))) [22, 34, 17]
 o36 : OpIs ops 36 75 none (.pick (.tmp 56) (.const (.bool true)) (.tmp 74)) [17, 35]
def qem (C : WC) (N : Nat) (ys : List Int) (v : Int) : Prop := ∀ W, C.J ys W -> YieldAt Fence.wide (N - 1) Tryz.prog C.lp #[.int .i64 v] W fun e W' => (e = .returned (.bool true) ∧ C.J (ys ++ [v]) W' ∧ CKeep C.Rc W W') ∨ (e = .returned (.bool false) ∧ C.Jx (ys ++ [v]) W')
theorem hz14 {ops : Array Oper} (hO : W8Ops ops) {d : Nat -> Bool} (hcl : q5y ops d) (hdi : d 14 = false) : ∀ j, 14 ≤ j -> j < 37 -> d j = false := by
 intro j h1 h2
 rcases (show j = 14 ∨ j = 15 ∨ j = 16 ∨ j = 17 ∨ j = 18 ∨ j = 19 ∨ j = 20 ∨ j = 21 ∨ j = 22 ∨ j = 23 ∨ j = 24 ∨ j = 25 ∨ j = 26 ∨ j = 27 ∨ j = 28 ∨ j = 29 ∨ j = 30 ∨ j = 31 ∨ j = 32 ∨ j = 33 ∨ j = 34 ∨ j = 35 ∨ j = 36 by omega) with rfl | rfl | rfl | rfl | rfl | rfl | rfl | rfl | rfl | rfl | rfl | rfl | rfl | rfl | rfl | rfl | rfl | rfl | rfl | rfl | rfl | rfl | rfl
 ·exact hdi
 ·exact qk (fun h => (hO.o15.deps hcl h 14 (by decide))) hdi
 ·exact qk (fun h => (hO.o15.deps hcl (hO.o16.deps hcl h 15 (by decide)) 14 (by decide))) hdi
 ·exact qk (fun h => (hO.o17.deps hcl h 14 (by decide))) hdi
 ·exact qk (fun h => (hO.o17.deps hcl (hO.o18.deps hcl h 17 (by decide)) 14 (by decide))) hdi
 ·exact qk (fun h => (hO.o17.deps hcl (hO.o19.deps hcl h 17 (by decide)) 14 (by decide))) hdi
 ·exact qk (fun h => (hO.o17.deps hcl (hO.o20.deps hcl h 17 (by decide)) 14 (by decide))) hdi
 ·exact qk (fun h => (hO.o17.deps hcl (hO.o21.deps hcl h 17 (by decide)) 14 (by decide))) hdi
 ·exact qk (fun h => (hO.o17.deps hcl (hO.o22.deps hcl h 17 (by decide)) 14 (by decide))) hdi
 ·exact qk (fun h => (hO.o17.deps hcl (hO.o22.deps hcl (hO.o23.deps hcl h 22 (by decide)) 17 (by decide)) 14 (by decide))) hdi
 ·exact qk (fun h => (hO.o17.deps hcl (hO.o22.deps hcl (hO.o24.deps hcl h 22 (by decide)) 17 (by decide)) 14 (by decide))) hdi
 ·exact qk (fun h => (hO.o17.deps hcl (hO.o22.deps hcl (hO.o25.deps hcl h 22 (by decide)) 17 (by decide)) 14 (by decide))) hdi
 ·exact qk (fun h => (hO.o17.deps hcl (hO.o22.deps hcl (hO.o26.deps hcl h 22 (by decide)) 17 (by decide)) 14 (by decide))) hdi
 ·exact qk (fun h => (hO.o17.deps hcl (hO.o22.deps hcl (hO.o27.deps hcl h 22 (by decide)) 17 (by decide)) 14 (by decide))) hdi
 ·exact qk (fun h => (hO.o17.deps hcl (hO.o22.deps hcl (hO.o28.deps hcl h 22 (by decide)) 17 (by decide)) 14 (by decide))) hdi
 ·exact qk (fun h => (hO.o17.deps hcl (hO.o22.deps hcl (hO.o29.deps hcl h 22 (by decide)) 17 (by decide)) 14 (by decide))) hdi
 ·exact qk (fun h => (hO.o17.deps hcl (hO.o22.deps hcl (hO.o30.deps hcl h 22 (by decide)) 17 (by decide)) 14 (by decide))) hdi
 ·exact qk (fun h => (hO.o17.deps hcl (hO.o22.deps hcl (hO.o31.deps hcl h 22 (by decide)) 17 (by decide)) 14 (by decide))) hdi
 ·exact qk (fun h => (hO.o17.deps hcl (hO.o22.deps hcl (hO.o32.deps hcl h 22 (by decide)) 17 (by decide)) 14 (by decide))) hdi
 ·exact qk (fun h => (hO.o17.deps hcl (hO.o22.deps hcl (hO.o33.deps hcl h 22 (by decide)) 17 (by decide)) 14 (by decide))) hdi
 ·exact qk (fun h => (hO.o17.deps hcl (hO.o22.deps hcl (hO.o34.deps hcl h 22 (by decide)) 17 (by decide)) 14 (by decide))) hdi
 ·exact qk (fun h => (hO.o17.deps hcl (hO.o35.deps hcl h 17 (by decide)) 14 (by decide))) hdi
 ·exact qk (fun h => (hO.o17.deps hcl (hO.o36.deps hcl h 17 (by decide)) 14 (by decide))) hdi
theorem hz33 {ops : Array Oper} (hO : W8Ops ops) {d : Nat -> Bool} (hcl : q5y ops d) (hdi : d 33 = false) : ∀ j, 33 ≤ j -> j < 37 -> d j = false := by
 intro j h1 h2
 rcases (show j = 33 ∨ j = 34 ∨ j = 35 ∨ j = 36 by omega) with rfl | rfl | rfl | rfl
 ·exact hdi
 ·exact qk (fun h => (hO.o34.deps hcl h 33 (by decide))) hdi
 ·exact qk (fun h => (hO.o34.deps hcl (hO.o35.deps hcl h 34 (by decide)) 33 (by decide))) hdi
 ·exact qk (fun h => (hO.o34.deps hcl (hO.o35.deps hcl (hO.o36.deps hcl h 35 (by decide)) 34 (by decide)) 33 (by decide))) hdi
def RS (i : Nat) : Prop := ∀ {C : WC} {d : Nat -> Bool} {a0 a : Act} {w : World} {Q : Exit -> Act -> World -> Prop} {o : Oper} {ops : Array Oper} {N : Nat}, WRI C d (vals a) w -> W8Ops ops -> q5y ops d -> Ag WIS a0 a -> (∀ k ∈ WIS, k < a0.tmps.size) -> ActW C a0 -> ops[i]? = some o -> d i = false -> (∀ e ∈ o.after, Region.binds .any e = true -> d e.on = true) -> StepIn Fence.wide N Tryz.prog ops Q WIS a0 (WRI C) d i o a w
theorem WR.r0 : RS 0 := by
 intro C d a0 a w Q o ops N HH hO hcl hag hsl HA ho hdi hall;obtain ⟨c1, c2, H⟩ := HH;obtain ⟨h1, h2, h3, h4⟩ := hO.o0.all ho hall;exact H.q0 hag HA (qz h2) h1  h3
theorem WR.r1 : RS 1 := by
 intro C d a0 a w Q o ops N HH hO hcl hag hsl HA ho hdi hall;obtain ⟨c1, c2, H⟩ := HH;obtain ⟨h1, h2, h3, h4⟩ := hO.o1.all ho hall;exact H.q1 hag HA (qz h2) h1 (h4 0 (by decide)) (qk (fun h => (hO.o3.deps hcl (hO.o4.deps hcl (hO.o14.deps hcl h 4 (by decide)) 3 (by decide)) 1 (by decide))) hdi) (qk (fun h => (hO.o3.deps hcl (hO.o4.deps hcl (hO.o16.deps hcl (hO.o17.deps hcl (hO.o22.deps hcl (hO.o33.deps hcl h 22 (by decide)) 17 (by decide)) 16 (by decide)) 4 (by decide)) 3 (by decide)) 1 (by decide))) hdi) h3
theorem WR.r2 : RS 2 := by
 intro C d a0 a w Q o ops N HH hO hcl hag hsl HA ho hdi hall;obtain ⟨c1, c2, H⟩ := HH;obtain ⟨h1, h2, h3, h4⟩ := hO.o2.all ho hall;exact H.q2 hag HA (qz h2) h1 (qk (fun h => (hO.o3.deps hcl (hO.o4.deps hcl (hO.o14.deps hcl h 4 (by decide)) 3 (by decide)) 2 (by decide))) hdi) (qk (fun h => (hO.o3.deps hcl (hO.o4.deps hcl (hO.o16.deps hcl (hO.o17.deps hcl (hO.o22.deps hcl (hO.o33.deps hcl h 22 (by decide)) 17 (by decide)) 16 (by decide)) 4 (by decide)) 3 (by decide)) 2 (by decide))) hdi) h3
theorem WR.r3 : RS 3 := by
 intro C d a0 a w Q o ops N HH hO hcl hag hsl HA ho hdi hall;obtain ⟨c1, c2, H⟩ := HH;obtain ⟨h1, h2, h3, h4⟩ := hO.o3.all ho hall;exact H.q3 hag HA (qz h2) h1 (h4 1 (by decide)) (h4 2 (by decide)) h3
theorem WR.r4 : RS 4 := by
 intro C d a0 a w Q o ops N HH hO hcl hag hsl HA ho hdi hall;obtain ⟨c1, c2, H⟩ := HH;obtain ⟨h1, h2, h3, h4⟩ := hO.o4.all ho hall;exact H.q4 hag HA (qz h2) h1 (h4 3 (by decide)) h3
theorem WR.r5 : RS 5 := by
 intro C d a0 a w Q o ops N HH hO hcl hag hsl HA ho hdi hall;obtain ⟨c1, c2, H⟩ := HH;obtain ⟨h1, h2, h3, h4⟩ := hO.o5.all ho hall;have hwn := qp h2 hO.o4 (by rw [hag.sz]; exact hsl 43 (by decide)) (H.v43 (h4 4 (by decide)))
 cases hb : C.B1
 ·rw [hb] at hwn;exact H.s5B1 hag hwn h1 hb
 ·rw [hb] at hwn;exact H.q5 hag HA hwn h1 hb h3
theorem WR.r6 : RS 6 := by
 intro C d a0 a w Q o ops N HH hO hcl hag hsl HA ho hdi hall;obtain ⟨c1, c2, H⟩ := HH;obtain ⟨h1, h2, h3, h4⟩ := hO.o6.all ho hall;have hwn := qp h2 hO.o4 (by rw [hag.sz]; exact hsl 43 (by decide)) (H.v43 (h4 4 (by decide)))
 cases hb : C.B1
 ·rw [hb] at hwn;exact H.s6B1 hag hwn h1 hb
 ·rw [hb] at hwn;exact H.q6 hag HA hwn h1 hb (qk (fun h => (hO.o7.deps hcl (hO.o8.deps hcl (hO.o9.deps hcl (hO.o12.deps hcl (hO.o13.deps hcl (hO.o14.deps hcl h 13 (by decide)) 12 (by decide)) 9 (by decide)) 8 (by decide)) 7 (by decide)) 6 (by decide))) hdi) (qk (fun h => (hO.o7.deps hcl (hO.o8.deps hcl (hO.o9.deps hcl (hO.o12.deps hcl (hO.o13.deps hcl (hO.o14.deps hcl (hO.o17.deps hcl (hO.o22.deps hcl (hO.o33.deps hcl h 22 (by decide)) 17 (by decide)) 14 (by decide)) 13 (by decide)) 12 (by decide)) 9 (by decide)) 8 (by decide)) 7 (by decide)) 6 (by decide))) hdi) h3
theorem WR.r7 : RS 7 := by
 intro C d a0 a w Q o ops N HH hO hcl hag hsl HA ho hdi hall;obtain ⟨c1, c2, H⟩ := HH;obtain ⟨h1, h2, h3, h4⟩ := hO.o7.all ho hall;have hwn := qp h2 hO.o4 (by rw [hag.sz]; exact hsl 43 (by decide)) (H.v43 (h4 4 (by decide)))
 cases hb : C.B1
 ·rw [hb] at hwn;exact H.s7B1 hag hwn h1 hb
 ·rw [hb] at hwn;exact H.q7 hag HA hwn h1 (h4 6 (by decide)) hb h3
theorem WR.r8 : RS 8 := by
 intro C d a0 a w Q o ops N HH hO hcl hag hsl HA ho hdi hall;obtain ⟨c1, c2, H⟩ := HH;obtain ⟨h1, h2, h3, h4⟩ := hO.o8.all ho hall;have hwn := qp h2 hO.o4 (by rw [hag.sz]; exact hsl 43 (by decide)) (H.v43 (h4 4 (by decide)))
 cases hb : C.B1
 ·rw [hb] at hwn;exact H.s8B1 hag hwn h1 hb
 ·rw [hb] at hwn;exact H.q8 hag HA hwn h1 (h4 7 (by decide)) hb h3
theorem WR.r9 : RS 9 := by
 intro C d a0 a w Q o ops N HH hO hcl hag hsl HA ho hdi hall;obtain ⟨c1, c2, H⟩ := HH;obtain ⟨h1, h2, h3, h4⟩ := hO.o9.all ho hall;have hwn := qp h2 hO.o4 (by rw [hag.sz]; exact hsl 43 (by decide)) (H.v43 (h4 4 (by decide)))
 cases hb : C.B1
 ·rw [hb] at hwn;exact H.s9B1 hag hwn h1 hb
 ·rw [hb] at hwn;exact H.q9 hag HA hwn h1 (h4 8 (by decide)) hb (qk (fun h => (hO.o12.deps hcl (hO.o13.deps hcl (hO.o14.deps hcl h 13 (by decide)) 12 (by decide)) 9 (by decide))) hdi) (qk (fun h => (hO.o12.deps hcl (hO.o13.deps hcl (hO.o14.deps hcl (hO.o17.deps hcl (hO.o22.deps hcl (hO.o33.deps hcl h 22 (by decide)) 17 (by decide)) 14 (by decide)) 13 (by decide)) 12 (by decide)) 9 (by decide))) hdi) h3
theorem WR.r10 : RS 10 := by
 intro C d a0 a w Q o ops N HH hO hcl hag hsl HA ho hdi hall;obtain ⟨c1, c2, H⟩ := HH;obtain ⟨h1, h2, h3, h4⟩ := hO.o10.all ho hall;have hwn := qp h2 hO.o4 (by rw [hag.sz]; exact hsl 43 (by decide)) (H.v43 (h4 4 (by decide)))
 cases hb : C.B1
 ·rw [hb] at hwn;exact H.s10B1 hag hwn h1 hb
 ·rw [hb] at hwn;exact H.q10 hag HA hwn h1 hb h3
theorem WR.r11 : RS 11 := by
 intro C d a0 a w Q o ops N HH hO hcl hag hsl HA ho hdi hall;obtain ⟨c1, c2, H⟩ := HH;obtain ⟨h1, h2, h3, h4⟩ := hO.o11.all ho hall;have hwn := qp h2 hO.o4 (by rw [hag.sz]; exact hsl 43 (by decide)) (H.v43 (h4 4 (by decide)))
 cases hb : C.B1
 ·rw [hb] at hwn;exact H.s11B1 hag hwn h1 hb
 ·rw [hb] at hwn;exact H.q11 hag HA hwn h1 (h4 10 (by decide)) hb (qk (fun h => (hO.o12.deps hcl (hO.o13.deps hcl (hO.o14.deps hcl h 13 (by decide)) 12 (by decide)) 11 (by decide))) hdi) (qk (fun h => (hO.o12.deps hcl (hO.o13.deps hcl (hO.o14.deps hcl (hO.o17.deps hcl (hO.o22.deps hcl (hO.o33.deps hcl h 22 (by decide)) 17 (by decide)) 14 (by decide)) 13 (by decide)) 12 (by decide)) 11 (by decide))) hdi) h3
theorem WR.r12 : RS 12 := by
 intro C d a0 a w Q o ops N HH hO hcl hag hsl HA ho hdi hall;obtain ⟨c1, c2, H⟩ := HH;obtain ⟨h1, h2, h3, h4⟩ := hO.o12.all ho hall;have hwn := qp h2 hO.o4 (by rw [hag.sz]; exact hsl 43 (by decide)) (H.v43 (h4 4 (by decide)))
 cases hb : C.B1
 ·rw [hb] at hwn;exact H.s12B1 hag hwn h1 hb
 ·rw [hb] at hwn;exact H.q12 hag HA hwn h1 (h4 9 (by decide)) (h4 11 (by decide)) hb h3
theorem WR.r13 : RS 13 := by
 intro C d a0 a w Q o ops N HH hO hcl hag hsl HA ho hdi hall;obtain ⟨c1, c2, H⟩ := HH;obtain ⟨h1, h2, h3, h4⟩ := hO.o13.all ho hall;have hwn := qp h2 hO.o4 (by rw [hag.sz]; exact hsl 43 (by decide)) (H.v43 (h4 4 (by decide)))
 cases hb : C.B1
 ·rw [hb] at hwn;exact H.s13B1 hag hwn h1 hb
 ·rw [hb] at hwn;exact H.q13 hag HA hwn h1 (h4 12 (by decide)) hb (qk (fun h => (hO.o14.deps hcl h 13 (by decide))) hdi) (qk (fun h => (hO.o14.deps hcl (hO.o17.deps hcl (hO.o22.deps hcl (hO.o33.deps hcl h 22 (by decide)) 17 (by decide)) 14 (by decide)) 13 (by decide))) hdi) h3
theorem WR.r14 {C : WC} {d : Nat -> Bool} {a0 a : Act} {w : World} {Q : Exit -> Act -> World -> Prop} {o : Oper} {ops : Array Oper} {N : Nat} (HH : WRI C d (vals a) w) (hO : W8Ops ops) (hcl : q5y ops d) (hag : Ag WIS a0 a) (hsl : ∀ k ∈ WIS, k < a0.tmps.size) (HA : ActW C a0) (hY14 : C.B1 = true -> qem C N C.ys C.p1) (ho : ops[14]? = some o) (hdi : d 14 = false) (hall : ∀ e ∈ o.after, Region.binds .any e = true -> d e.on = true) : StepIn Fence.wide N Tryz.prog ops Q WIS a0 (WRI C) d 14 o a w := by
 obtain ⟨c1, c2, H⟩ := HH;obtain ⟨h1, h2, h3, h4⟩ := hO.o14.all ho hall;have hwn := qp h2 hO.o4 (by rw [hag.sz]; exact hsl 43 (by decide)) (H.v43 (h4 4 (by decide)))
 cases hb : C.B1
 ·rw [hb] at hwn;exact H.s14B1 hag hwn h1 hb
 ·rw [hb] at hwn;exact H.q14 hag HA hwn h1 (h4 5 (by decide)) (h4 13 (by decide)) hb (hz14 hO hcl hdi) (hY14 hb) h3
theorem WR.r15 : RS 15 := by
 intro C d a0 a w Q o ops N HH hO hcl hag hsl HA ho hdi hall;obtain ⟨c1, c2, H⟩ := HH;obtain ⟨h1, h2, h3, h4⟩ := hO.o15.all ho hall;have hwn := qp h2 hO.o4 (by rw [hag.sz]; exact hsl 43 (by decide)) (H.v43 (h4 4 (by decide)))
 cases hb : C.B1
 ·rw [hb] at hwn;exact H.s15B1 hag hwn h1 hb
 ·rw [hb] at hwn;exact H.q15 hag HA hwn h1 (h4 14 (by decide)) hb h3
theorem WR.r16 : RS 16 := by
 intro C d a0 a w Q o ops N HH hO hcl hag hsl HA ho hdi hall;obtain ⟨c1, c2, H⟩ := HH;obtain ⟨h1, h2, h3, h4⟩ := hO.o16.all ho hall;exact H.q16 hag HA (qz h2) h1 (h4 4 (by decide)) (h4 15 (by decide)) h3
theorem WR.r17 : RS 17 := by
 intro C d a0 a w Q o ops N HH hO hcl hag hsl HA ho hdi hall;obtain ⟨c1, c2, H⟩ := HH;obtain ⟨h1, h2, h3, h4⟩ := hO.o17.all ho hall;exact H.q17 hag HA (qz h2) h1 (h4 16 (by decide)) h3
theorem WR.r18 : RS 18 := by
 intro C d a0 a w Q o ops N HH hO hcl hag hsl HA ho hdi hall;obtain ⟨c1, c2, H⟩ := HH;obtain ⟨h1, h2, h3, h4⟩ := hO.o18.all ho hall;have hwn := qp h2 hO.o17 (by rw [hag.sz]; exact hsl 56 (by decide)) (H.v56 (h4 17 (by decide)))
 cases c1
 ·exact H.s18c1 hag hwn h1 rfl
 ·exact H.q18 hag HA hwn h1 rfl h3
theorem WR.r19 : RS 19 := by
 intro C d a0 a w Q o ops N HH hO hcl hag hsl HA ho hdi hall;obtain ⟨c1, c2, H⟩ := HH;obtain ⟨h1, h2, h3, h4⟩ := hO.o19.all ho hall;have hwn := qp h2 hO.o17 (by rw [hag.sz]; exact hsl 56 (by decide)) (H.v56 (h4 17 (by decide)))
 cases c1
 ·exact H.s19c1 hag hwn h1 rfl
 ·exact H.q19 hag HA hwn h1 (h4 18 (by decide)) rfl (qk (fun h => (hO.o21.deps hcl (hO.o22.deps hcl (hO.o33.deps hcl h 22 (by decide)) 21 (by decide)) 19 (by decide))) hdi) h3
theorem WR.r20 : RS 20 := by
 intro C d a0 a w Q o ops N HH hO hcl hag hsl HA ho hdi hall;obtain ⟨c1, c2, H⟩ := HH;obtain ⟨h1, h2, h3, h4⟩ := hO.o20.all ho hall;have hwn := qp h2 hO.o17 (by rw [hag.sz]; exact hsl 56 (by decide)) (H.v56 (h4 17 (by decide)))
 cases c1
 ·exact H.s20c1 hag hwn h1 rfl
 ·exact H.q20 hag HA hwn h1 rfl (qk (fun h => (hO.o21.deps hcl (hO.o22.deps hcl (hO.o33.deps hcl h 22 (by decide)) 21 (by decide)) 20 (by decide))) hdi) h3
theorem WR.r21 : RS 21 := by
 intro C d a0 a w Q o ops N HH hO hcl hag hsl HA ho hdi hall;obtain ⟨c1, c2, H⟩ := HH;obtain ⟨h1, h2, h3, h4⟩ := hO.o21.all ho hall;have hwn := qp h2 hO.o17 (by rw [hag.sz]; exact hsl 56 (by decide)) (H.v56 (h4 17 (by decide)))
 cases c1
 ·exact H.s21c1 hag hwn h1 rfl
 ·exact H.q21 hag HA hwn h1 (h4 19 (by decide)) (h4 20 (by decide)) rfl h3
theorem WR.r22 : RS 22 := by
 intro C d a0 a w Q o ops N HH hO hcl hag hsl HA ho hdi hall;obtain ⟨c1, c2, H⟩ := HH;obtain ⟨h1, h2, h3, h4⟩ := hO.o22.all ho hall;have hwn := qp h2 hO.o17 (by rw [hag.sz]; exact hsl 56 (by decide)) (H.v56 (h4 17 (by decide)))
 cases c1
 ·exact H.s22c1 hag hwn h1 rfl
 ·exact H.q22 hag HA hwn h1 (h4 21 (by decide)) rfl h3
theorem WR.r23 : RS 23 := by
 intro C d a0 a w Q o ops N HH hO hcl hag hsl HA ho hdi hall;obtain ⟨c1, c2, H⟩ := HH;obtain ⟨h1, h2, h3, h4⟩ := hO.o23.all ho hall
 cases c1
 ·obtain ⟨og, hog, hg1, _⟩ := hO.o22;exact H.s23c1 hag (q0b h2 hog hg1 (by rw [hag.sz]; exact hsl 61 (by decide)) (H.v61u (h4 22 (by decide)) rfl)) h1 rfl
 ·have hwn := qp h2 hO.o22 (by rw [hag.sz]; exact hsl 61 (by decide)) (H.v61 (h4 22 (by decide)) rfl)
  cases hb : C.B2
  ·rw [hb] at hwn;exact H.s23B2 hag hwn h1 hb
  ·rw [hb] at hwn;exact H.q23 hag HA hwn h1 rfl hb h3
theorem WR.r24 : RS 24 := by
 intro C d a0 a w Q o ops N HH hO hcl hag hsl HA ho hdi hall;obtain ⟨c1, c2, H⟩ := HH;obtain ⟨h1, h2, h3, h4⟩ := hO.o24.all ho hall
 cases c1
 ·obtain ⟨og, hog, hg1, _⟩ := hO.o22;exact H.s24c1 hag (q0b h2 hog hg1 (by rw [hag.sz]; exact hsl 61 (by decide)) (H.v61u (h4 22 (by decide)) rfl)) h1 rfl
 ·have hwn := qp h2 hO.o22 (by rw [hag.sz]; exact hsl 61 (by decide)) (H.v61 (h4 22 (by decide)) rfl)
  cases hb : C.B2
  ·rw [hb] at hwn;exact H.s24B2 hag hwn h1 hb
  ·rw [hb] at hwn;exact H.q24 hag HA hwn h1 rfl hb (qk (fun h => (hO.o25.deps hcl (hO.o26.deps hcl (hO.o27.deps hcl (hO.o31.deps hcl (hO.o32.deps hcl (hO.o33.deps hcl h 32 (by decide)) 31 (by decide)) 27 (by decide)) 26 (by decide)) 25 (by decide)) 24 (by decide))) hdi) h3
theorem WR.r25 : RS 25 := by
 intro C d a0 a w Q o ops N HH hO hcl hag hsl HA ho hdi hall;obtain ⟨c1, c2, H⟩ := HH;obtain ⟨h1, h2, h3, h4⟩ := hO.o25.all ho hall
 cases c1
 ·obtain ⟨og, hog, hg1, _⟩ := hO.o22;exact H.s25c1 hag (q0b h2 hog hg1 (by rw [hag.sz]; exact hsl 61 (by decide)) (H.v61u (h4 22 (by decide)) rfl)) h1 rfl
 ·have hwn := qp h2 hO.o22 (by rw [hag.sz]; exact hsl 61 (by decide)) (H.v61 (h4 22 (by decide)) rfl)
  cases hb : C.B2
  ·rw [hb] at hwn;exact H.s25B2 hag hwn h1 hb
  ·rw [hb] at hwn;exact H.q25 hag HA hwn h1 (h4 24 (by decide)) rfl hb h3
theorem WR.r26 : RS 26 := by
 intro C d a0 a w Q o ops N HH hO hcl hag hsl HA ho hdi hall;obtain ⟨c1, c2, H⟩ := HH;obtain ⟨h1, h2, h3, h4⟩ := hO.o26.all ho hall
 cases c1
 ·obtain ⟨og, hog, hg1, _⟩ := hO.o22;exact H.s26c1 hag (q0b h2 hog hg1 (by rw [hag.sz]; exact hsl 61 (by decide)) (H.v61u (h4 22 (by decide)) rfl)) h1 rfl
 ·have hwn := qp h2 hO.o22 (by rw [hag.sz]; exact hsl 61 (by decide)) (H.v61 (h4 22 (by decide)) rfl)
  cases hb : C.B2
  ·rw [hb] at hwn;exact H.s26B2 hag hwn h1 hb
  ·rw [hb] at hwn;exact H.q26 hag HA hwn h1 (h4 25 (by decide)) rfl hb h3
theorem WR.r27 : RS 27 := by
 intro C d a0 a w Q o ops N HH hO hcl hag hsl HA ho hdi hall;obtain ⟨c1, c2, H⟩ := HH;obtain ⟨h1, h2, h3, h4⟩ := hO.o27.all ho hall
 cases c1
 ·obtain ⟨og, hog, hg1, _⟩ := hO.o22;exact H.s27c1 hag (q0b h2 hog hg1 (by rw [hag.sz]; exact hsl 61 (by decide)) (H.v61u (h4 22 (by decide)) rfl)) h1 rfl
 ·have hwn := qp h2 hO.o22 (by rw [hag.sz]; exact hsl 61 (by decide)) (H.v61 (h4 22 (by decide)) rfl)
  cases hb : C.B2
  ·rw [hb] at hwn;exact H.s27B2 hag hwn h1 hb
  ·rw [hb] at hwn;exact H.q27 hag HA hwn h1 (h4 26 (by decide)) rfl hb (qk (fun h => (hO.o31.deps hcl (hO.o32.deps hcl (hO.o33.deps hcl h 32 (by decide)) 31 (by decide)) 27 (by decide))) hdi) h3
theorem WR.r28 : RS 28 := by
 intro C d a0 a w Q o ops N HH hO hcl hag hsl HA ho hdi hall;obtain ⟨c1, c2, H⟩ := HH;obtain ⟨h1, h2, h3, h4⟩ := hO.o28.all ho hall
 cases c1
 ·obtain ⟨og, hog, hg1, _⟩ := hO.o22;exact H.s28c1 hag (q0b h2 hog hg1 (by rw [hag.sz]; exact hsl 61 (by decide)) (H.v61u (h4 22 (by decide)) rfl)) h1 rfl
 ·have hwn := qp h2 hO.o22 (by rw [hag.sz]; exact hsl 61 (by decide)) (H.v61 (h4 22 (by decide)) rfl)
  cases hb : C.B2
  ·rw [hb] at hwn;exact H.s28B2 hag hwn h1 hb
  ·rw [hb] at hwn;exact H.q28 hag HA hwn h1 rfl hb h3
theorem WR.r29 : RS 29 := by
 intro C d a0 a w Q o ops N HH hO hcl hag hsl HA ho hdi hall;obtain ⟨c1, c2, H⟩ := HH;obtain ⟨h1, h2, h3, h4⟩ := hO.o29.all ho hall
 cases c1
 ·obtain ⟨og, hog, hg1, _⟩ := hO.o22;exact H.s29c1 hag (q0b h2 hog hg1 (by rw [hag.sz]; exact hsl 61 (by decide)) (H.v61u (h4 22 (by decide)) rfl)) h1 rfl
 ·have hwn := qp h2 hO.o22 (by rw [hag.sz]; exact hsl 61 (by decide)) (H.v61 (h4 22 (by decide)) rfl)
  cases hb : C.B2
  ·rw [hb] at hwn;exact H.s29B2 hag hwn h1 hb
  ·rw [hb] at hwn;exact H.q29 hag HA hwn h1 (h4 28 (by decide)) rfl hb h3
theorem WR.r30 : RS 30 := by
 intro C d a0 a w Q o ops N HH hO hcl hag hsl HA ho hdi hall;obtain ⟨c1, c2, H⟩ := HH;obtain ⟨h1, h2, h3, h4⟩ := hO.o30.all ho hall
 cases c1
 ·obtain ⟨og, hog, hg1, _⟩ := hO.o22;exact H.s30c1 hag (q0b h2 hog hg1 (by rw [hag.sz]; exact hsl 61 (by decide)) (H.v61u (h4 22 (by decide)) rfl)) h1 rfl
 ·have hwn := qp h2 hO.o22 (by rw [hag.sz]; exact hsl 61 (by decide)) (H.v61 (h4 22 (by decide)) rfl)
  cases hb : C.B2
  ·rw [hb] at hwn;exact H.s30B2 hag hwn h1 hb
  ·rw [hb] at hwn;exact H.q30 hag HA hwn h1 (h4 29 (by decide)) rfl hb (qk (fun h => (hO.o31.deps hcl (hO.o32.deps hcl (hO.o33.deps hcl h 32 (by decide)) 31 (by decide)) 30 (by decide))) hdi) h3
theorem WR.r31 : RS 31 := by
 intro C d a0 a w Q o ops N HH hO hcl hag hsl HA ho hdi hall;obtain ⟨c1, c2, H⟩ := HH;obtain ⟨h1, h2, h3, h4⟩ := hO.o31.all ho hall
 cases c1
 ·obtain ⟨og, hog, hg1, _⟩ := hO.o22;exact H.s31c1 hag (q0b h2 hog hg1 (by rw [hag.sz]; exact hsl 61 (by decide)) (H.v61u (h4 22 (by decide)) rfl)) h1 rfl
 ·have hwn := qp h2 hO.o22 (by rw [hag.sz]; exact hsl 61 (by decide)) (H.v61 (h4 22 (by decide)) rfl)
  cases hb : C.B2
  ·rw [hb] at hwn;exact H.s31B2 hag hwn h1 hb
  ·rw [hb] at hwn;exact H.q31 hag HA hwn h1 (h4 27 (by decide)) (h4 30 (by decide)) rfl hb h3
theorem WR.r32 : RS 32 := by
 intro C d a0 a w Q o ops N HH hO hcl hag hsl HA ho hdi hall;obtain ⟨c1, c2, H⟩ := HH;obtain ⟨h1, h2, h3, h4⟩ := hO.o32.all ho hall
 cases c1
 ·obtain ⟨og, hog, hg1, _⟩ := hO.o22;exact H.s32c1 hag (q0b h2 hog hg1 (by rw [hag.sz]; exact hsl 61 (by decide)) (H.v61u (h4 22 (by decide)) rfl)) h1 rfl
 ·have hwn := qp h2 hO.o22 (by rw [hag.sz]; exact hsl 61 (by decide)) (H.v61 (h4 22 (by decide)) rfl)
  cases hb : C.B2
  ·rw [hb] at hwn;exact H.s32B2 hag hwn h1 hb
  ·rw [hb] at hwn;exact H.q32 hag HA hwn h1 (h4 31 (by decide)) rfl hb (qk (fun h => (hO.o33.deps hcl h 32 (by decide))) hdi) h3
theorem WR.r33 {C : WC} {d : Nat -> Bool} {a0 a : Act} {w : World} {Q : Exit -> Act -> World -> Prop} {o : Oper} {ops : Array Oper} {N : Nat} (HH : WRI C d (vals a) w) (hO : W8Ops ops) (hcl : q5y ops d) (hag : Ag WIS a0 a) (hsl : ∀ k ∈ WIS, k < a0.tmps.size) (HA : ActW C a0) (hY33 : C.B2 = true -> qem C N (C.ys ++ C.q1) C.p2) (ho : ops[33]? = some o) (hdi : d 33 = false) (hall : ∀ e ∈ o.after, Region.binds .any e = true -> d e.on = true) : StepIn Fence.wide N Tryz.prog ops Q WIS a0 (WRI C) d 33 o a w := by
 obtain ⟨c1, c2, H⟩ := HH;obtain ⟨h1, h2, h3, h4⟩ := hO.o33.all ho hall
 cases c1
 ·obtain ⟨og, hog, hg1, _⟩ := hO.o22;exact H.s33c1 hag (q0b h2 hog hg1 (by rw [hag.sz]; exact hsl 61 (by decide)) (H.v61u (h4 22 (by decide)) rfl)) h1 rfl
 ·have hwn := qp h2 hO.o22 (by rw [hag.sz]; exact hsl 61 (by decide)) (H.v61 (h4 22 (by decide)) rfl)
  cases hb : C.B2
  ·rw [hb] at hwn;exact H.s33B2 hag hwn h1 hb
  ·rw [hb] at hwn;exact H.q33 hag HA hwn h1 (h4 23 (by decide)) (h4 32 (by decide)) (hO.o17.deps hcl (hO.o22.deps hcl (h4 22 (by decide)) 17 (by decide)) 14 (by decide)) rfl hb (hz33 hO hcl hdi) (hY33 hb) h3
theorem WR.r34 : RS 34 := by
 intro C d a0 a w Q o ops N HH hO hcl hag hsl HA ho hdi hall;obtain ⟨c1, c2, H⟩ := HH;obtain ⟨h1, h2, h3, h4⟩ := hO.o34.all ho hall
 cases c1
 ·obtain ⟨og, hog, hg1, _⟩ := hO.o22;exact H.s34c1 hag (q0b h2 hog hg1 (by rw [hag.sz]; exact hsl 61 (by decide)) (H.v61u (h4 22 (by decide)) rfl)) h1 rfl
 ·have hwn := qp h2 hO.o22 (by rw [hag.sz]; exact hsl 61 (by decide)) (H.v61 (h4 22 (by decide)) rfl)
  cases hb : C.B2
  ·rw [hb] at hwn;exact H.s34B2 hag hwn h1 hb
  ·rw [hb] at hwn;exact H.q34 hag HA hwn h1 (h4 33 (by decide)) rfl hb h3
theorem WR.r35 : RS 35 := by
 intro C d a0 a w Q o ops N HH hO hcl hag hsl HA ho hdi hall;obtain ⟨c1, c2, H⟩ := HH;obtain ⟨h1, h2, h3, h4⟩ := hO.o35.all ho hall;have hwn := qp h2 hO.o17 (by rw [hag.sz]; exact hsl 56 (by decide)) (H.v56 (h4 17 (by decide)))
 cases c1
 ·exact H.s35c1 hag hwn h1 rfl
 ·exact H.q35 hag HA hwn h1 (h4 22 (by decide)) (h4 34 (by decide)) rfl h3
theorem WR.r36 : RS 36 := by
 intro C d a0 a w Q o ops N HH hO hcl hag hsl HA ho hdi hall;obtain ⟨c1, c2, H⟩ := HH;obtain ⟨h1, h2, h3, h4⟩ := hO.o36.all ho hall;exact H.q36 hag HA (qz h2) h1 (h4 17 (by decide)) (h4 35 (by decide)) h3
theorem qkn {C : WC} {N id : Nat} {ops : Array Oper} {Q : Exit -> Act -> World -> Prop} {a0 : Act} {w : World} (hm : (Tryz.prog).follows .mixedOrders = true) (hO : W8Ops ops) (hsl : ∀ k ∈ WIS, k < a0.tmps.size) (HA : ActW C a0) (hN : C.Need w.drew) (hJ : C.J C.ys w.drew)
 (hY14 : C.B1 = true -> qem C N C.ys C.p1) (hY33 : C.B2 = true -> qem C N (C.ys ++ C.q1) C.p2)
 (hQ : ∀ (vs : Nat -> Value) w', (∀ k, k ∉ WIS -> vs k = vals a0 k) -> ((vs 75 = .bool false ∧ C.Need w' ∧ C.J (C.ys ++ C.q1 ++ C.q2) w') ∨ (vs 75 = .bool true ∧ ∃ zs, zs <+: C.ys ++ C.q1 ++ C.q2 ∧ C.Jx zs w')) -> Q .normal (over a0 (WIS.map fun k => (k, vs k))) w') :
 (Code.region id ops true).wpIn Fence.wide N Tryz.prog Q a0 w := by
 refine qa0 hm WIS (WRI C) (qah hO.eg) hsl ⟨true, true, ?_⟩ ?_ ?_
 ·refine ⟨fun _ _ => ⟨hN, ?_⟩, (fun h => by cases h), (fun h => by cases h), (fun _ => rfl), (fun _ => rfl), (fun _ => rfl), (fun _ => rfl), (fun _ => rfl), (fun h => by cases h), (fun h => by cases h), (fun h => by cases h), (fun h => by cases h), (fun h => by cases h), (fun h => by cases h), (fun h => by cases h), (fun h => by cases h), (fun h => by cases h), (fun h => by cases h), (fun h => by cases h), (fun h => by cases h), (fun h => by cases h), (fun h => by cases h), (fun h => by cases h), (fun h => by cases h), (fun h => by cases h), (fun h => by cases h), (fun h => by cases h), (fun h => by cases h), (fun h => by cases h), (fun h => by cases h), (fun h => by cases h), (fun h => by cases h), (fun h => by cases h), (fun h => by cases h), (fun h => by cases h), (fun h => by cases h), (fun h => by cases h), (fun h => by cases h), (fun h => by cases h), (fun h => by cases h), (fun h => by cases h), (fun h => by cases h), (fun h => by cases h), (fun h => by cases h), (fun h => by cases h), (fun h => by cases h)⟩;rw [if_neg (by decide), if_neg (by decide), List.append_nil, List.append_nil];exact hJ
 ·intro d a w' i o ho hdi hall hcl hag H
  have hi : i < 37 := by
   rw [<- hO.sz];exact (Array.getElem?_eq_some_iff.1 ho).1
  rcases (show i = 0 ∨ i = 1 ∨ i = 2 ∨ i = 3 ∨ i = 4 ∨ i = 5 ∨ i = 6 ∨ i = 7 ∨ i = 8 ∨ i = 9 ∨ i = 10 ∨ i = 11 ∨ i = 12 ∨ i = 13 ∨ i = 14 ∨ i = 15 ∨ i = 16 ∨ i = 17 ∨ i = 18 ∨ i = 19 ∨ i = 20 ∨ i = 21 ∨ i = 22 ∨ i = 23 ∨ i = 24 ∨ i = 25 ∨ i = 26 ∨ i = 27 ∨ i = 28 ∨ i = 29 ∨ i = 30 ∨ i = 31 ∨ i = 32 ∨ i = 33 ∨ i = 34 ∨ i = 35 ∨ i = 36 by omega) with rfl | rfl | rfl | rfl | rfl | rfl | rfl | rfl | rfl | rfl | rfl | rfl | rfl | rfl | rfl | rfl | rfl | rfl | rfl | rfl | rfl | rfl | rfl | rfl | rfl | rfl | rfl | rfl | rfl | rfl | rfl | rfl | rfl | rfl | rfl | rfl | rfl
  ·exact WR.r0 H hO hcl hag hsl HA ho hdi hall
  ·exact WR.r1 H hO hcl hag hsl HA ho hdi hall
  ·exact WR.r2 H hO hcl hag hsl HA ho hdi hall
  ·exact WR.r3 H hO hcl hag hsl HA ho hdi hall
  ·exact WR.r4 H hO hcl hag hsl HA ho hdi hall
  ·exact WR.r5 H hO hcl hag hsl HA ho hdi hall
  ·exact WR.r6 H hO hcl hag hsl HA ho hdi hall
  ·exact WR.r7 H hO hcl hag hsl HA ho hdi hall
  ·exact WR.r8 H hO hcl hag hsl HA ho hdi hall
  ·exact WR.r9 H hO hcl hag hsl HA ho hdi hall
  ·exact WR.r10 H hO hcl hag hsl HA ho hdi hall
  ·exact WR.r11 H hO hcl hag hsl HA ho hdi hall
  ·exact WR.r12 H hO hcl hag hsl HA ho hdi hall
  ·exact WR.r13 H hO hcl hag hsl HA ho hdi hall
  ·exact WR.r14 H hO hcl hag hsl HA hY14 ho hdi hall
  ·exact WR.r15 H hO hcl hag hsl HA ho hdi hall
  ·exact WR.r16 H hO hcl hag hsl HA ho hdi hall
  ·exact WR.r17 H hO hcl hag hsl HA ho hdi hall
  ·exact WR.r18 H hO hcl hag hsl HA ho hdi hall
  ·exact WR.r19 H hO hcl hag hsl HA ho hdi hall
  ·exact WR.r20 H hO hcl hag hsl HA ho hdi hall
  ·exact WR.r21 H hO hcl hag hsl HA ho hdi hall
  ·exact WR.r22 H hO hcl hag hsl HA ho hdi hall
  ·exact WR.r23 H hO hcl hag hsl HA ho hdi hall
  ·exact WR.r24 H hO hcl hag hsl HA ho hdi hall
  ·exact WR.r25 H hO hcl hag hsl HA ho hdi hall
  ·exact WR.r26 H hO hcl hag hsl HA ho hdi hall
  ·exact WR.r27 H hO hcl hag hsl HA ho hdi hall
  ·exact WR.r28 H hO hcl hag hsl HA ho hdi hall
  ·exact WR.r29 H hO hcl hag hsl HA ho hdi hall
  ·exact WR.r30 H hO hcl hag hsl HA ho hdi hall
  ·exact WR.r31 H hO hcl hag hsl HA ho hdi hall
  ·exact WR.r32 H hO hcl hag hsl HA ho hdi hall
  ·exact WR.r33 H hO hcl hag hsl HA hY33 ho hdi hall
  ·exact WR.r34 H hO hcl hag hsl HA ho hdi hall
  ·exact WR.r35 H hO hcl hag hsl HA ho hdi hall
  ·exact WR.r36 H hO hcl hag hsl HA ho hdi hall
 ·rintro d vs w' hall hold ⟨c1, c2, H⟩;have hd : ∀ k, k < 37 -> d k = true := fun k hk => hall k (by rw [hO.sz]; exact hk);have hv := H.v75 (hd 36 (by omega));refine hQ vs w' hold ?_
  cases c1
  ·refine .inr ⟨hv, C.ys ++ [C.p1], ?_, H.x1 rfl⟩
   have hb : C.B1 = true := by
    cases hb : C.B1
    ·have := H.b1 hb
     cases this
    ·rfl
   have hq : C.q1 = [C.p1] := if_pos hb;rw [hq];exact List.prefix_append _ _
  ·cases c2
   ·refine .inr ⟨hv, C.ys ++ C.q1 ++ [C.p2], ?_, H.x2 rfl⟩
    have hb : C.B2 = true := by
     cases hb : C.B2
     ·have := H.b2 hb
      cases this
     ·rfl
    have hq : C.q2 = [C.p2] := if_pos hb;rw [hq];exact List.prefix_refl _
   ·have hl := H.lv rfl rfl;rw [hd 14 (by omega), hd 33 (by omega), if_pos rfl, if_pos rfl] at hl;exact .inl ⟨hv, hl⟩
end Go.Proofs.YtdanebboiekieaaGreatDoor
