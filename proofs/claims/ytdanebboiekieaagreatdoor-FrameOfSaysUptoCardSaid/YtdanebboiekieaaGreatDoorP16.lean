/- The walks, part 16. -/
import Derived.Test.YtdanebboiekieaaGreatDoorP15
set_option linter.unusedSimpArgs false
set_option linter.unusedVariables false
set_option maxRecDepth 100000
set_option maxHeartbeats 16000000
namespace Go.Proofs.YtdanebboiekieaaGreatDoor
open Go.RowKit
attribute [local go_sem] Oper.semAt_some
theorem q0g {d : Nat -> Bool} {i k : Nat} (h : k ≠ i) (hd : don d i k = true) : d k = true := by
 unfold don at hd
 rwa [if_neg h] at hd
theorem qz {d : Nat -> Bool} {i k : Nat} (h : k ≠ i) : don d i k = d k := if_neg h
theorem q82 {d : Nat -> Bool} {i : Nat} : don d i i = true := if_pos rfl
theorem q5q {val : Nat -> Value} {k j : Nat} {v : Value} (h : j ≠ k) : setVl val k v j = val j := if_neg h
theorem q0n {val : Nat -> Value} {k : Nat} {v : Value} : setVl val k v k = v := if_pos rfl
theorem q0b {ops : Array Oper} {o og : Oper} {a : Act} {j k : Nat} {b : Bool} (h : o.guard = some (j, b)) (ho : ops[j]? = some og) (hd : og.dst = some k) (hk : k < a.tmps.size) (hv : vals a k = undef) : Region.wanted o (yielded ops a.tmps) = false := by
 unfold Region.wanted
 rw [h]
 simp only [q6h ho hd hk, hv]
 cases b <;> rfl
structure WCells (x : UIns) (va : Value) (r n gp cp Br Bp PB B4 B8 : Nat) (pl : List Int) (w : World) : Prop where
 rb : w.cell? ⟨Br, 0, none⟩ = some (.int .i64 (r : Int))
 pb : w.cell? ⟨Bp, 0, none⟩ = some (.pointer (some ⟨PB, 0, none⟩))
 pp : w.cell? ⟨PB, 7, none⟩ = some (.slice (some ⟨gp, 0, none⟩) n cp)
 b8 : w.heap[B8]? = some (.cells #[.int .i64 x.op, .int .i64 x.dst, .bool x.a.reg, .int .i64 x.a.n, .bool x.b.reg, .int .i64 x.b.n, .int .i64 x.fn, va] 71 (0, 0))
 b4 : w.heap[B4]? = some (.cells #[.bool true, .int .i64 (r : Int)] 64 (0, 0))
 pl : IntAt gp pl w
structure WC where
 x : UIns
 va : Value
 r : Nat
 n : Nat
 gp : Nat
 cp : Nat
 Br : Nat
 Bp : Nat
 PB : Nat
 B4 : Nat
 B8 : Nat
 Rc : Nat
 lp : Nat
 m : Nat
 pl : List Int
 ys : List Int
 J : List Int -> World -> Prop
 Jx : List Int -> World -> Prop
 Need : World -> Prop
 hlen : pl.length = n
 hreg : x.a.reg = true
 hd : 0 ≤ x.dst ∧ x.dst < (n : Int)
 ha : 0 ≤ x.a.n ∧ x.a.n < (n : Int)
 cells : ∀ w, Need w -> WCells x va r n gp cp Br Bp PB B4 B8 pl w
 keep : ∀ w w', Need w -> CKeep Rc w w' -> Need w'
def WC.B1 (C : WC) : Bool := decide (C.x.a.n = (C.r : Int))
def WC.B2 (C : WC) : Bool := decide (C.x.dst = (C.r : Int))
def WC.p1 (C : WC) : Int := iAt C.pl C.x.dst.toNat
def WC.p2 (C : WC) : Int := iAt C.pl C.x.a.n.toNat
def WC.q1 (C : WC) : List Int := if C.B1 = true then [C.p1] else []
def WC.q2 (C : WC) : List Int := if C.B2 = true then [C.p2] else []
def WIS : List Nat := [39, 40, 41, 42, 43, 44, 45, 46, 47, 48, 49, 50, 51, 52, 53, 54, 55, 56, 57, 58, 59, 60, 61, 62, 63, 64, 65, 66, 67, 68, 69, 70, 71, 72, 73, 74, 75]
structure WR (C : WC) (c1 c2 : Bool) (d : Nat -> Bool) (val : Nat -> Value) (w : World) : Prop where
 lv : c1 = true -> c2 = true -> C.Need w ∧ C.J (C.ys ++ (if d 14 = true then C.q1 else []) ++ (if d 33 = true then C.q2 else [])) w
 x1 : c1 = false -> C.Jx (C.ys ++ [C.p1]) w
 x2 : c2 = false -> C.Jx (C.ys ++ C.q1 ++ [C.p2]) w
 n1 : d 14 = false -> c1 = true
 b1 : C.B1 = false -> c1 = true
 n2 : d 33 = false -> c2 = true
 b2 : C.B2 = false -> c2 = true
 e2 : c1 = false -> c2 = true
 v39 : d 0 = true -> val 39 = (.pointer (some ⟨C.B8, 2, none⟩))
 v40 : d 1 = true -> val 40 = (.agg #[.bool C.x.a.reg, .int .i64 C.x.a.n])
 v41 : d 2 = true -> val 41 = (.agg #[.bool true, .int .i64 (C.r : Int)])
 v42 : d 3 = true -> val 42 = (.bool C.B1)
 v43 : d 4 = true -> val 43 = (.bool C.B1)
 v44 : d 5 = true -> C.B1 = true -> val 44 = (.func (.yield C.lp) #[] #[])
 v45 : d 6 = true -> C.B1 = true -> val 45 = (.pointer (some ⟨C.PB, 0, none⟩))
 v46 : d 7 = true -> C.B1 = true -> val 46 = (.pointer (some ⟨C.PB, 0, none⟩))
 v47 : d 8 = true -> C.B1 = true -> val 47 = (.pointer (some ⟨C.PB, 7, none⟩))
 v48 : d 9 = true -> C.B1 = true -> val 48 = (.slice (some ⟨C.gp, 0, none⟩) C.n C.cp)
 v49 : d 10 = true -> C.B1 = true -> val 49 = (.pointer (some ⟨C.B8, 1, none⟩))
 v50 : d 11 = true -> C.B1 = true -> val 50 = (.int .i64 C.x.dst)
 v51 : d 12 = true -> C.B1 = true -> val 51 = (.pointer (some ⟨C.gp, C.x.dst.toNat, none⟩))
 v52 : d 13 = true -> C.B1 = true -> val 52 = (.int .i64 C.p1)
 v53 : d 14 = true -> C.B1 = true -> val 53 = (.bool c1)
 v54 : d 15 = true -> C.B1 = true -> val 54 = (.bool (!c1))
 v55 : d 16 = true -> val 55 = (.bool (!c1))
 v56 : d 17 = true -> val 56 = (.bool (!c1))
 v57 : d 18 = true -> c1 = true -> val 57 = (.pointer (some ⟨C.B8, 1, none⟩))
 v58 : d 19 = true -> c1 = true -> val 58 = (.int .i64 C.x.dst)
 v59 : d 20 = true -> c1 = true -> val 59 = (.int .i64 (C.r : Int))
 v60 : d 21 = true -> c1 = true -> val 60 = (.bool C.B2)
 v61 : d 22 = true -> c1 = true -> val 61 = (.bool C.B2)
 v62 : d 23 = true -> c1 = true -> C.B2 = true -> val 62 = (.func (.yield C.lp) #[] #[])
 v63 : d 24 = true -> c1 = true -> C.B2 = true -> val 63 = (.pointer (some ⟨C.PB, 0, none⟩))
 v64 : d 25 = true -> c1 = true -> C.B2 = true -> val 64 = (.pointer (some ⟨C.PB, 0, none⟩))
 v65 : d 26 = true -> c1 = true -> C.B2 = true -> val 65 = (.pointer (some ⟨C.PB, 7, none⟩))
 v66 : d 27 = true -> c1 = true -> C.B2 = true -> val 66 = (.slice (some ⟨C.gp, 0, none⟩) C.n C.cp)
 v67 : d 28 = true -> c1 = true -> C.B2 = true -> val 67 = (.pointer (some ⟨C.B8, 2, none⟩))
 v68 : d 29 = true -> c1 = true -> C.B2 = true -> val 68 = (.pointer (some ⟨C.B8, 3, none⟩))
 v69 : d 30 = true -> c1 = true -> C.B2 = true -> val 69 = (.int .i64 C.x.a.n)
 v70 : d 31 = true -> c1 = true -> C.B2 = true -> val 70 = (.pointer (some ⟨C.gp, C.x.a.n.toNat, none⟩))
 v71 : d 32 = true -> c1 = true -> C.B2 = true -> val 71 = (.int .i64 C.p2)
 v72 : d 33 = true -> c1 = true -> C.B2 = true -> val 72 = (.bool c2)
 v73 : d 34 = true -> c1 = true -> C.B2 = true -> val 73 = (.bool (!c2))
 v74 : d 35 = true -> c1 = true -> val 74 = (.bool (!c2))
 v75 : d 36 = true -> val 75 = (.bool (!c1 || !c2))
 v61u : d 22 = true -> c1 = false -> val 61 = undef
section
variable {C : WC} {c1 c2 : Bool} {d : Nat -> Bool} {val : Nat -> Value} {w : World}
theorem wk1 {d : Nat -> Bool} {val : Nat -> Value} {i j k l : Nat} {v x : Value} (H : d k = true -> val l = x) (e : l ≠ j := by decide) (n : k ≠ i := by decide) : don d i k = true -> setVl val j v l = x := fun h => (q5q e).trans (H (q0g n h))
theorem wk2 {P : Prop} {d : Nat -> Bool} {val : Nat -> Value} {i j k l : Nat} {v x : Value} (H : d k = true -> P -> val l = x) (e : l ≠ j := by decide) (n : k ≠ i := by decide) : don d i k = true -> P -> setVl val j v l = x := fun h p => (q5q e).trans (H (q0g n h) p)
theorem wk3 {P Q : Prop} {d : Nat -> Bool} {val : Nat -> Value} {i j k l : Nat} {v x : Value} (H : d k = true -> P -> Q -> val l = x) (e : l ≠ j := by decide) (n : k ≠ i := by decide) : don d i k = true -> P -> Q -> setVl val j v l = x := fun h p q => (q5q e).trans (H (q0g n h) p q)
def WG (C : WC) (c1 c2 : Bool) : Nat -> Value -> Prop
 | 0, x => x = (.pointer (some ⟨C.B8, 2, none⟩))
 | 1, x => x = (.agg #[.bool C.x.a.reg, .int .i64 C.x.a.n])
 | 2, x => x = (.agg #[.bool true, .int .i64 (C.r : Int)])
 | 3, x => x = (.bool C.B1)
 | 4, x => x = (.bool C.B1)
 | 5, x => C.B1 = true -> x = (.func (.yield C.lp) #[] #[])
 | 6, x => C.B1 = true -> x = (.pointer (some ⟨C.PB, 0, none⟩))
 | 7, x => C.B1 = true -> x = (.pointer (some ⟨C.PB, 0, none⟩))
 | 8, x => C.B1 = true -> x = (.pointer (some ⟨C.PB, 7, none⟩))
 | 9, x => C.B1 = true -> x = (.slice (some ⟨C.gp, 0, none⟩) C.n C.cp)
 | 10, x => C.B1 = true -> x = (.pointer (some ⟨C.B8, 1, none⟩))
 | 11, x => C.B1 = true -> x = (.int .i64 C.x.dst)
 | 12, x => C.B1 = true -> x = (.pointer (some ⟨C.gp, C.x.dst.toNat, none⟩))
 | 13, x => C.B1 = true -> x = (.int .i64 C.p1)
 | 14, x => C.B1 = true -> x = (.bool c1)
 | 15, x => C.B1 = true -> x = (.bool (!c1))
 | 16, x => x = (.bool (!c1))
 | 17, x => x = (.bool (!c1))
 | 18, x => c1 = true -> x = (.pointer (some ⟨C.B8, 1, none⟩))
 | 19, x => c1 = true -> x = (.int .i64 C.x.dst)
 | 20, x => c1 = true -> x = (.int .i64 (C.r : Int))
 | 21, x => c1 = true -> x = (.bool C.B2)
 | 22, x => c1 = true -> x = (.bool C.B2)
 | 23, x => c1 = true -> C.B2 = true -> x = (.func (.yield C.lp) #[] #[])
 | 24, x => c1 = true -> C.B2 = true -> x = (.pointer (some ⟨C.PB, 0, none⟩))
 | 25, x => c1 = true -> C.B2 = true -> x = (.pointer (some ⟨C.PB, 0, none⟩))
 | 26, x => c1 = true -> C.B2 = true -> x = (.pointer (some ⟨C.PB, 7, none⟩))
 | 27, x => c1 = true -> C.B2 = true -> x = (.slice (some ⟨C.gp, 0, none⟩) C.n C.cp)
 | 28, x => c1 = true -> C.B2 = true -> x = (.pointer (some ⟨C.B8, 2, none⟩))
 | 29, x => c1 = true -> C.B2 = true -> x = (.pointer (some ⟨C.B8, 3, none⟩))
 | 30, x => c1 = true -> C.B2 = true -> x = (.int .i64 C.x.a.n)
 | 31, x => c1 = true -> C.B2 = true -> x = (.pointer (some ⟨C.gp, C.x.a.n.toNat, none⟩))
 | 32, x => c1 = true -> C.B2 = true -> x = (.int .i64 C.p2)
 | 33, x => c1 = true -> C.B2 = true -> x = (.bool c2)
 | 34, x => c1 = true -> C.B2 = true -> x = (.bool (!c2))
 | 35, x => c1 = true -> x = (.bool (!c2))
 | 36, x => x = (.bool (!c1 || !c2))
 | _, _ => True
theorem upg (K : Nat) {i : Nat} {v : Value} (H : d K = true -> WG C c1 c2 K (val (K + 39))) (h : WG C c1 c2 i v) : don d i K = true -> WG C c1 c2 K (setVl val (i + 39) v (K + 39)) := fun h0 => by
 by_cases e : K = i
 ·subst e
  rw [q0n]
  exact h
 ·rw [q5q (by omega)]
  exact H (q0g e h0)
theorem WR.upd (H : WR C c1 c2 d val w) (i : Nat) (v : Value) (h : WG C c1 c2 i v) (h14 : i ≠ 14 := by decide) (h33 : i ≠ 33 := by decide) (h22 : i ≠ 22 := by decide) : WR C c1 c2 (don d i) (setVl val (i + 39) v) w :=
 ⟨fun h1 h2 => by rw [qz h14.symm, qz h33.symm]; exact H.lv h1 h2, H.x1, H.x2, fun h => H.n1 (by rwa [qz h14.symm] at h), H.b1, fun h => H.n2 (by rwa [qz h33.symm] at h), H.b2, H.e2, upg 0 H.v39 h, upg 1 H.v40 h, upg 2 H.v41 h, upg 3 H.v42 h, upg 4 H.v43 h, upg 5 H.v44 h, upg 6 H.v45 h, upg 7 H.v46 h, upg 8 H.v47 h, upg 9 H.v48 h, upg 10 H.v49 h, upg 11 H.v50 h, upg 12 H.v51 h, upg 13 H.v52 h, upg 14 H.v53 h, upg 15 H.v54 h, upg 16 H.v55 h, upg 17 H.v56 h, upg 18 H.v57 h, upg 19 H.v58 h, upg 20 H.v59 h, upg 21 H.v60 h, upg 22 H.v61 h, upg 23 H.v62 h, upg 24 H.v63 h, upg 25 H.v64 h, upg 26 H.v65 h, upg 27 H.v66 h, upg 28 H.v67 h, upg 29 H.v68 h, upg 30 H.v69 h, upg 31 H.v70 h, upg 32 H.v71 h, upg 33 H.v72 h, upg 34 H.v73 h, upg 35 H.v74 h, upg 36 H.v75 h, fun h0 h1 => (q5q (by omega)).trans (H.v61u (q0g h22.symm h0) h1)⟩
theorem WR.f0 (H : WR C c1 c2 d val w) : WR C c1 c2 (don d 0) (setVl val 39 (.pointer (some ⟨C.B8, 2, none⟩))) w :=
 H.upd 0 _ rfl
theorem WR.f1 (H : WR C c1 c2 d val w) : WR C c1 c2 (don d 1) (setVl val 40 (.agg #[.bool C.x.a.reg, .int .i64 C.x.a.n])) w :=
 H.upd 1 _ rfl
theorem WR.f2 (H : WR C c1 c2 d val w) : WR C c1 c2 (don d 2) (setVl val 41 (.agg #[.bool true, .int .i64 (C.r : Int)])) w :=
 H.upd 2 _ rfl
theorem WR.f3 (H : WR C c1 c2 d val w) : WR C c1 c2 (don d 3) (setVl val 42 (.bool C.B1)) w :=
 H.upd 3 _ rfl
theorem WR.f4 (H : WR C c1 c2 d val w) : WR C c1 c2 (don d 4) (setVl val 43 (.bool C.B1)) w :=
 H.upd 4 _ rfl
theorem WR.f5 (H : WR C c1 c2 d val w) (g0 : C.B1 = true) : WR C c1 c2 (don d 5) (setVl val 44 (.func (.yield C.lp) #[] #[])) w :=
 H.upd 5 _ (fun _ => rfl)
theorem WR.u5B1 (H : WR C c1 c2 d val w) (g : C.B1 = false) : WR C c1 c2 (don d 5) (setVl val 44 undef) w :=
 H.upd 5 _ (fun h1 => absurd h1 (by rw [g]; decide))
theorem WR.f6 (H : WR C c1 c2 d val w) (g0 : C.B1 = true) : WR C c1 c2 (don d 6) (setVl val 45 (.pointer (some ⟨C.PB, 0, none⟩))) w :=
 H.upd 6 _ (fun _ => rfl)
theorem WR.u6B1 (H : WR C c1 c2 d val w) (g : C.B1 = false) : WR C c1 c2 (don d 6) (setVl val 45 undef) w :=
 H.upd 6 _ (fun h1 => absurd h1 (by rw [g]; decide))
theorem WR.f7 (H : WR C c1 c2 d val w) (g0 : C.B1 = true) : WR C c1 c2 (don d 7) (setVl val 46 (.pointer (some ⟨C.PB, 0, none⟩))) w :=
 H.upd 7 _ (fun _ => rfl)
theorem WR.u7B1 (H : WR C c1 c2 d val w) (g : C.B1 = false) : WR C c1 c2 (don d 7) (setVl val 46 undef) w :=
 H.upd 7 _ (fun h1 => absurd h1 (by rw [g]; decide))
theorem WR.f8 (H : WR C c1 c2 d val w) (g0 : C.B1 = true) : WR C c1 c2 (don d 8) (setVl val 47 (.pointer (some ⟨C.PB, 7, none⟩))) w :=
 H.upd 8 _ (fun _ => rfl)
theorem WR.u8B1 (H : WR C c1 c2 d val w) (g : C.B1 = false) : WR C c1 c2 (don d 8) (setVl val 47 undef) w :=
 H.upd 8 _ (fun h1 => absurd h1 (by rw [g]; decide))
theorem WR.f9 (H : WR C c1 c2 d val w) (g0 : C.B1 = true) : WR C c1 c2 (don d 9) (setVl val 48 (.slice (some ⟨C.gp, 0, none⟩) C.n C.cp)) w :=
 H.upd 9 _ (fun _ => rfl)
theorem WR.u9B1 (H : WR C c1 c2 d val w) (g : C.B1 = false) : WR C c1 c2 (don d 9) (setVl val 48 undef) w :=
 H.upd 9 _ (fun h1 => absurd h1 (by rw [g]; decide))
theorem WR.f10 (H : WR C c1 c2 d val w) (g0 : C.B1 = true) : WR C c1 c2 (don d 10) (setVl val 49 (.pointer (some ⟨C.B8, 1, none⟩))) w :=
 H.upd 10 _ (fun _ => rfl)
theorem WR.u10B1 (H : WR C c1 c2 d val w) (g : C.B1 = false) : WR C c1 c2 (don d 10) (setVl val 49 undef) w :=
 H.upd 10 _ (fun h1 => absurd h1 (by rw [g]; decide))
theorem WR.f11 (H : WR C c1 c2 d val w) (g0 : C.B1 = true) : WR C c1 c2 (don d 11) (setVl val 50 (.int .i64 C.x.dst)) w :=
 H.upd 11 _ (fun _ => rfl)
theorem WR.u11B1 (H : WR C c1 c2 d val w) (g : C.B1 = false) : WR C c1 c2 (don d 11) (setVl val 50 undef) w :=
 H.upd 11 _ (fun h1 => absurd h1 (by rw [g]; decide))
theorem WR.f12 (H : WR C c1 c2 d val w) (g0 : C.B1 = true) : WR C c1 c2 (don d 12) (setVl val 51 (.pointer (some ⟨C.gp, C.x.dst.toNat, none⟩))) w :=
 H.upd 12 _ (fun _ => rfl)
theorem WR.u12B1 (H : WR C c1 c2 d val w) (g : C.B1 = false) : WR C c1 c2 (don d 12) (setVl val 51 undef) w :=
 H.upd 12 _ (fun h1 => absurd h1 (by rw [g]; decide))
theorem WR.f13 (H : WR C c1 c2 d val w) (g0 : C.B1 = true) : WR C c1 c2 (don d 13) (setVl val 52 (.int .i64 C.p1)) w :=
 H.upd 13 _ (fun _ => rfl)
theorem WR.u13B1 (H : WR C c1 c2 d val w) (g : C.B1 = false) : WR C c1 c2 (don d 13) (setVl val 52 undef) w :=
 H.upd 13 _ (fun h1 => absurd h1 (by rw [g]; decide))
theorem WR.f15 (H : WR C c1 c2 d val w) (g0 : C.B1 = true) : WR C c1 c2 (don d 15) (setVl val 54 (.bool (!c1))) w :=
 H.upd 15 _ (fun _ => rfl)
theorem WR.u15B1 (H : WR C c1 c2 d val w) (g : C.B1 = false) : WR C c1 c2 (don d 15) (setVl val 54 undef) w :=
 H.upd 15 _ (fun h1 => absurd h1 (by rw [g]; decide))
theorem WR.f16 (H : WR C c1 c2 d val w) : WR C c1 c2 (don d 16) (setVl val 55 (.bool (!c1))) w :=
 H.upd 16 _ rfl
theorem WR.f17 (H : WR C c1 c2 d val w) : WR C c1 c2 (don d 17) (setVl val 56 (.bool (!c1))) w :=
 H.upd 17 _ rfl
theorem WR.f18 (H : WR C c1 c2 d val w) (g0 : c1 = true) : WR C c1 c2 (don d 18) (setVl val 57 (.pointer (some ⟨C.B8, 1, none⟩))) w :=
 H.upd 18 _ (fun _ => rfl)
theorem WR.u18c1 (H : WR C c1 c2 d val w) (g : c1 = false) : WR C c1 c2 (don d 18) (setVl val 57 undef) w :=
 H.upd 18 _ (fun h1 => absurd h1 (by rw [g]; decide))
theorem WR.f19 (H : WR C c1 c2 d val w) (g0 : c1 = true) : WR C c1 c2 (don d 19) (setVl val 58 (.int .i64 C.x.dst)) w :=
 H.upd 19 _ (fun _ => rfl)
theorem WR.u19c1 (H : WR C c1 c2 d val w) (g : c1 = false) : WR C c1 c2 (don d 19) (setVl val 58 undef) w :=
 H.upd 19 _ (fun h1 => absurd h1 (by rw [g]; decide))
theorem WR.f20 (H : WR C c1 c2 d val w) (g0 : c1 = true) : WR C c1 c2 (don d 20) (setVl val 59 (.int .i64 (C.r : Int))) w :=
 H.upd 20 _ (fun _ => rfl)
theorem WR.u20c1 (H : WR C c1 c2 d val w) (g : c1 = false) : WR C c1 c2 (don d 20) (setVl val 59 undef) w :=
 H.upd 20 _ (fun h1 => absurd h1 (by rw [g]; decide))
theorem WR.f21 (H : WR C c1 c2 d val w) (g0 : c1 = true) : WR C c1 c2 (don d 21) (setVl val 60 (.bool C.B2)) w :=
 H.upd 21 _ (fun _ => rfl)
theorem WR.u21c1 (H : WR C c1 c2 d val w) (g : c1 = false) : WR C c1 c2 (don d 21) (setVl val 60 undef) w :=
 H.upd 21 _ (fun h1 => absurd h1 (by rw [g]; decide))
theorem WR.f22 (H : WR C c1 c2 d val w) (g0 : c1 = true) : WR C c1 c2 (don d 22) (setVl val 61 (.bool C.B2)) w :=
 ⟨fun h1 h2 => by rw [qz (by decide), qz (by decide)]; exact H.lv h1 h2, H.x1, H.x2, fun h => H.n1 (by rwa [qz (by decide)] at h), H.b1, fun h => H.n2 (by rwa [qz (by decide)] at h), H.b2, H.e2, wk1 H.v39, wk1 H.v40, wk1 H.v41, wk1 H.v42, wk1 H.v43, wk2 H.v44, wk2 H.v45, wk2 H.v46, wk2 H.v47, wk2 H.v48, wk2 H.v49, wk2 H.v50, wk2 H.v51, wk2 H.v52, wk2 H.v53, wk2 H.v54, wk1 H.v55, wk1 H.v56, wk2 H.v57, wk2 H.v58, wk2 H.v59, wk2 H.v60, fun _ _ => q0n, wk3 H.v62, wk3 H.v63, wk3 H.v64, wk3 H.v65, wk3 H.v66, wk3 H.v67, wk3 H.v68, wk3 H.v69, wk3 H.v70, wk3 H.v71, wk3 H.v72, wk3 H.v73, wk2 H.v74, wk1 H.v75, fun _ h1 => absurd g0 (by rw [h1]; decide)⟩
theorem WR.u22c1 (H : WR C c1 c2 d val w) (g : c1 = false) : WR C c1 c2 (don d 22) (setVl val 61 undef) w :=
 ⟨fun h1 h2 => by rw [qz (by decide), qz (by decide)]; exact H.lv h1 h2, H.x1, H.x2, fun h => H.n1 (by rwa [qz (by decide)] at h), H.b1, fun h => H.n2 (by rwa [qz (by decide)] at h), H.b2, H.e2, wk1 H.v39, wk1 H.v40, wk1 H.v41, wk1 H.v42, wk1 H.v43, wk2 H.v44, wk2 H.v45, wk2 H.v46, wk2 H.v47, wk2 H.v48, wk2 H.v49, wk2 H.v50, wk2 H.v51, wk2 H.v52, wk2 H.v53, wk2 H.v54, wk1 H.v55, wk1 H.v56, wk2 H.v57, wk2 H.v58, wk2 H.v59, wk2 H.v60, fun h0 h1 => absurd h1 (by rw [g]; decide), wk3 H.v62, wk3 H.v63, wk3 H.v64, wk3 H.v65, wk3 H.v66, wk3 H.v67, wk3 H.v68, wk3 H.v69, wk3 H.v70, wk3 H.v71, wk3 H.v72, wk3 H.v73, wk2 H.v74, wk1 H.v75, fun _ _ => q0n⟩
theorem WR.f23 (H : WR C c1 c2 d val w) (g0 : c1 = true) (g1 : C.B2 = true) : WR C c1 c2 (don d 23) (setVl val 62 (.func (.yield C.lp) #[] #[])) w :=
 H.upd 23 _ (fun _ _ => rfl)
theorem WR.u23c1 (H : WR C c1 c2 d val w) (g : c1 = false) : WR C c1 c2 (don d 23) (setVl val 62 undef) w :=
 H.upd 23 _ (fun h1 h2 => absurd h1 (by rw [g]; decide))
theorem WR.u23B2 (H : WR C c1 c2 d val w) (g : C.B2 = false) : WR C c1 c2 (don d 23) (setVl val 62 undef) w :=
 H.upd 23 _ (fun h1 h2 => absurd h2 (by rw [g]; decide))
theorem WR.f24 (H : WR C c1 c2 d val w) (g0 : c1 = true) (g1 : C.B2 = true) : WR C c1 c2 (don d 24) (setVl val 63 (.pointer (some ⟨C.PB, 0, none⟩))) w :=
 H.upd 24 _ (fun _ _ => rfl)
theorem WR.u24c1 (H : WR C c1 c2 d val w) (g : c1 = false) : WR C c1 c2 (don d 24) (setVl val 63 undef) w :=
 H.upd 24 _ (fun h1 h2 => absurd h1 (by rw [g]; decide))
theorem WR.u24B2 (H : WR C c1 c2 d val w) (g : C.B2 = false) : WR C c1 c2 (don d 24) (setVl val 63 undef) w :=
 H.upd 24 _ (fun h1 h2 => absurd h2 (by rw [g]; decide))
theorem WR.f25 (H : WR C c1 c2 d val w) (g0 : c1 = true) (g1 : C.B2 = true) : WR C c1 c2 (don d 25) (setVl val 64 (.pointer (some ⟨C.PB, 0, none⟩))) w :=
 H.upd 25 _ (fun _ _ => rfl)
theorem WR.u25c1 (H : WR C c1 c2 d val w) (g : c1 = false) : WR C c1 c2 (don d 25) (setVl val 64 undef) w :=
 H.upd 25 _ (fun h1 h2 => absurd h1 (by rw [g]; decide))
theorem WR.u25B2 (H : WR C c1 c2 d val w) (g : C.B2 = false) : WR C c1 c2 (don d 25) (setVl val 64 undef) w :=
 H.upd 25 _ (fun h1 h2 => absurd h2 (by rw [g]; decide))
theorem WR.f26 (H : WR C c1 c2 d val w) (g0 : c1 = true) (g1 : C.B2 = true) : WR C c1 c2 (don d 26) (setVl val 65 (.pointer (some ⟨C.PB, 7, none⟩))) w :=
 H.upd 26 _ (fun _ _ => rfl)
theorem WR.u26c1 (H : WR C c1 c2 d val w) (g : c1 = false) : WR C c1 c2 (don d 26) (setVl val 65 undef) w :=
 H.upd 26 _ (fun h1 h2 => absurd h1 (by rw [g]; decide))
theorem WR.u26B2 (H : WR C c1 c2 d val w) (g : C.B2 = false) : WR C c1 c2 (don d 26) (setVl val 65 undef) w :=
 H.upd 26 _ (fun h1 h2 => absurd h2 (by rw [g]; decide))
theorem WR.f27 (H : WR C c1 c2 d val w) (g0 : c1 = true) (g1 : C.B2 = true) : WR C c1 c2 (don d 27) (setVl val 66 (.slice (some ⟨C.gp, 0, none⟩) C.n C.cp)) w :=
 H.upd 27 _ (fun _ _ => rfl)
theorem WR.u27c1 (H : WR C c1 c2 d val w) (g : c1 = false) : WR C c1 c2 (don d 27) (setVl val 66 undef) w :=
 H.upd 27 _ (fun h1 h2 => absurd h1 (by rw [g]; decide))
theorem WR.u27B2 (H : WR C c1 c2 d val w) (g : C.B2 = false) : WR C c1 c2 (don d 27) (setVl val 66 undef) w :=
 H.upd 27 _ (fun h1 h2 => absurd h2 (by rw [g]; decide))
theorem WR.f28 (H : WR C c1 c2 d val w) (g0 : c1 = true) (g1 : C.B2 = true) : WR C c1 c2 (don d 28) (setVl val 67 (.pointer (some ⟨C.B8, 2, none⟩))) w :=
 H.upd 28 _ (fun _ _ => rfl)
theorem WR.u28c1 (H : WR C c1 c2 d val w) (g : c1 = false) : WR C c1 c2 (don d 28) (setVl val 67 undef) w :=
 H.upd 28 _ (fun h1 h2 => absurd h1 (by rw [g]; decide))
theorem WR.u28B2 (H : WR C c1 c2 d val w) (g : C.B2 = false) : WR C c1 c2 (don d 28) (setVl val 67 undef) w :=
 H.upd 28 _ (fun h1 h2 => absurd h2 (by rw [g]; decide))
theorem WR.f29 (H : WR C c1 c2 d val w) (g0 : c1 = true) (g1 : C.B2 = true) : WR C c1 c2 (don d 29) (setVl val 68 (.pointer (some ⟨C.B8, 3, none⟩))) w :=
 H.upd 29 _ (fun _ _ => rfl)
theorem WR.u29c1 (H : WR C c1 c2 d val w) (g : c1 = false) : WR C c1 c2 (don d 29) (setVl val 68 undef) w :=
 H.upd 29 _ (fun h1 h2 => absurd h1 (by rw [g]; decide))
theorem WR.u29B2 (H : WR C c1 c2 d val w) (g : C.B2 = false) : WR C c1 c2 (don d 29) (setVl val 68 undef) w :=
 H.upd 29 _ (fun h1 h2 => absurd h2 (by rw [g]; decide))
theorem WR.f30 (H : WR C c1 c2 d val w) (g0 : c1 = true) (g1 : C.B2 = true) : WR C c1 c2 (don d 30) (setVl val 69 (.int .i64 C.x.a.n)) w :=
 H.upd 30 _ (fun _ _ => rfl)
theorem WR.u30c1 (H : WR C c1 c2 d val w) (g : c1 = false) : WR C c1 c2 (don d 30) (setVl val 69 undef) w :=
 H.upd 30 _ (fun h1 h2 => absurd h1 (by rw [g]; decide))
theorem WR.u30B2 (H : WR C c1 c2 d val w) (g : C.B2 = false) : WR C c1 c2 (don d 30) (setVl val 69 undef) w :=
 H.upd 30 _ (fun h1 h2 => absurd h2 (by rw [g]; decide))
theorem WR.f31 (H : WR C c1 c2 d val w) (g0 : c1 = true) (g1 : C.B2 = true) : WR C c1 c2 (don d 31) (setVl val 70 (.pointer (some ⟨C.gp, C.x.a.n.toNat, none⟩))) w :=
 H.upd 31 _ (fun _ _ => rfl)
theorem WR.u31c1 (H : WR C c1 c2 d val w) (g : c1 = false) : WR C c1 c2 (don d 31) (setVl val 70 undef) w :=
 H.upd 31 _ (fun h1 h2 => absurd h1 (by rw [g]; decide))
theorem WR.u31B2 (H : WR C c1 c2 d val w) (g : C.B2 = false) : WR C c1 c2 (don d 31) (setVl val 70 undef) w :=
 H.upd 31 _ (fun h1 h2 => absurd h2 (by rw [g]; decide))
theorem WR.f32 (H : WR C c1 c2 d val w) (g0 : c1 = true) (g1 : C.B2 = true) : WR C c1 c2 (don d 32) (setVl val 71 (.int .i64 C.p2)) w :=
 H.upd 32 _ (fun _ _ => rfl)
theorem WR.u32c1 (H : WR C c1 c2 d val w) (g : c1 = false) : WR C c1 c2 (don d 32) (setVl val 71 undef) w :=
 H.upd 32 _ (fun h1 h2 => absurd h1 (by rw [g]; decide))
theorem WR.u32B2 (H : WR C c1 c2 d val w) (g : C.B2 = false) : WR C c1 c2 (don d 32) (setVl val 71 undef) w :=
 H.upd 32 _ (fun h1 h2 => absurd h2 (by rw [g]; decide))
theorem WR.f34 (H : WR C c1 c2 d val w) (g0 : c1 = true) (g1 : C.B2 = true) : WR C c1 c2 (don d 34) (setVl val 73 (.bool (!c2))) w :=
 H.upd 34 _ (fun _ _ => rfl)
theorem WR.u34c1 (H : WR C c1 c2 d val w) (g : c1 = false) : WR C c1 c2 (don d 34) (setVl val 73 undef) w :=
 H.upd 34 _ (fun h1 h2 => absurd h1 (by rw [g]; decide))
theorem WR.u34B2 (H : WR C c1 c2 d val w) (g : C.B2 = false) : WR C c1 c2 (don d 34) (setVl val 73 undef) w :=
 H.upd 34 _ (fun h1 h2 => absurd h2 (by rw [g]; decide))
theorem WR.f35 (H : WR C c1 c2 d val w) (g0 : c1 = true) : WR C c1 c2 (don d 35) (setVl val 74 (.bool (!c2))) w :=
 H.upd 35 _ (fun _ => rfl)
theorem WR.u35c1 (H : WR C c1 c2 d val w) (g : c1 = false) : WR C c1 c2 (don d 35) (setVl val 74 undef) w :=
 H.upd 35 _ (fun h1 => absurd h1 (by rw [g]; decide))
theorem WR.f36 (H : WR C c1 c2 d val w) : WR C c1 c2 (don d 36) (setVl val 75 (.bool (!c1 || !c2))) w :=
 H.upd 36 _ rfl
theorem WR.u14B1 (H : WR C c1 c2 d val w) (g : C.B1 = false) : WR C c1 c2 (don d 14) (setVl val 53 undef) w := by
 have hq : C.q1 = [] := if_neg (by rw [g]; decide)
 refine ⟨fun h1 h2 => ?_, H.x1, H.x2, fun _ => H.b1 g, H.b1, fun h => H.n2 (by rwa [qz (by decide)] at h), H.b2, H.e2, wk1 H.v39, wk1 H.v40, wk1 H.v41, wk1 H.v42, wk1 H.v43, wk2 H.v44, wk2 H.v45, wk2 H.v46, wk2 H.v47, wk2 H.v48, wk2 H.v49, wk2 H.v50, wk2 H.v51, wk2 H.v52, fun h0 h1 => absurd h1 (by rw [g]; decide), wk2 H.v54, wk1 H.v55, wk1 H.v56, wk2 H.v57, wk2 H.v58, wk2 H.v59, wk2 H.v60, wk2 H.v61, wk3 H.v62, wk3 H.v63, wk3 H.v64, wk3 H.v65, wk3 H.v66, wk3 H.v67, wk3 H.v68, wk3 H.v69, wk3 H.v70, wk3 H.v71, wk3 H.v72, wk3 H.v73, wk2 H.v74, wk1 H.v75, wk2 H.v61u⟩
 have h3 := H.lv h1 h2
 rw [hq, ite_self] at h3
 rw [qz (show (33 : Nat) ≠ 14 by decide), hq, ite_self]
 exact h3
theorem WR.u33c1 (H : WR C c1 c2 d val w) (g : c1 = false) : WR C c1 c2 (don d 33) (setVl val 72 undef) w := by
 refine ⟨fun h1 h2 => absurd h1 (by rw [g]; decide), H.x1, H.x2, fun h => H.n1 (by rwa [qz (by decide)] at h), H.b1, fun _ => H.e2 g, H.b2, H.e2, wk1 H.v39, wk1 H.v40, wk1 H.v41, wk1 H.v42, wk1 H.v43, wk2 H.v44, wk2 H.v45, wk2 H.v46, wk2 H.v47, wk2 H.v48, wk2 H.v49, wk2 H.v50, wk2 H.v51, wk2 H.v52, wk2 H.v53, wk2 H.v54, wk1 H.v55, wk1 H.v56, wk2 H.v57, wk2 H.v58, wk2 H.v59, wk2 H.v60, wk2 H.v61, wk3 H.v62, wk3 H.v63, wk3 H.v64, wk3 H.v65, wk3 H.v66, wk3 H.v67, wk3 H.v68, wk3 H.v69, wk3 H.v70, wk3 H.v71, fun h0 h1 h2 => absurd h1 (by rw [g]; decide), wk3 H.v73, wk2 H.v74, wk1 H.v75, wk2 H.v61u⟩
theorem WR.u33B2 (H : WR C c1 c2 d val w) (g : C.B2 = false) : WR C c1 c2 (don d 33) (setVl val 72 undef) w := by
 have hq : C.q2 = [] := if_neg (by rw [g]; decide)
 refine ⟨fun h1 h2 => ?_, H.x1, H.x2, fun h => H.n1 (by rwa [qz (by decide)] at h), H.b1, fun _ => H.b2 g, H.b2, H.e2, wk1 H.v39, wk1 H.v40, wk1 H.v41, wk1 H.v42, wk1 H.v43, wk2 H.v44, wk2 H.v45, wk2 H.v46, wk2 H.v47, wk2 H.v48, wk2 H.v49, wk2 H.v50, wk2 H.v51, wk2 H.v52, wk2 H.v53, wk2 H.v54, wk1 H.v55, wk1 H.v56, wk2 H.v57, wk2 H.v58, wk2 H.v59, wk2 H.v60, wk2 H.v61, wk3 H.v62, wk3 H.v63, wk3 H.v64, wk3 H.v65, wk3 H.v66, wk3 H.v67, wk3 H.v68, wk3 H.v69, wk3 H.v70, wk3 H.v71, fun h0 h1 h2 => absurd h2 (by rw [g]; decide), wk3 H.v73, wk2 H.v74, wk1 H.v75, wk2 H.v61u⟩
 have h3 := H.lv h1 h2
 rw [hq, ite_self] at h3
 rw [qz (show (14 : Nat) ≠ 33 by decide), hq, ite_self]
 exact h3
theorem WR.f14 (H : WR C c1 c2 d val w) (hz : ∀ j, 14 ≤ j -> j < 37 -> d j = false) (g0 : C.B1 = true) {w' : World} {b : Bool} (ht : b = true -> C.Need w' ∧ C.J (C.ys ++ [C.p1]) w') (hf : b = false -> C.Jx (C.ys ++ [C.p1]) w') : WR C b c2 (don d 14) (setVl val 53 (.bool b)) w' := by
 have hq : C.q1 = [C.p1] := if_pos g0
 have hc2 : c2 = true := H.n2 (hz 33 (by omega) (by omega))
 refine ⟨fun h1 _ => ?_, hf, fun h => absurd h (by rw [hc2]; decide), fun h => absurd h (by rw [q82]; decide), fun h => absurd h (by rw [g0]; decide), fun _ => hc2, H.b2, fun _ => hc2, wk1 H.v39, wk1 H.v40, wk1 H.v41, wk1 H.v42, wk1 H.v43, wk2 H.v44, wk2 H.v45, wk2 H.v46, wk2 H.v47, wk2 H.v48, wk2 H.v49, wk2 H.v50, wk2 H.v51, wk2 H.v52, fun _ _ => q0n, fun h0 => absurd (q0g (by decide) h0) (by rw [hz 15 (by omega) (by omega)]; decide), fun h0 => absurd (q0g (by decide) h0) (by rw [hz 16 (by omega) (by omega)]; decide), fun h0 => absurd (q0g (by decide) h0) (by rw [hz 17 (by omega) (by omega)]; decide), fun h0 => absurd (q0g (by decide) h0) (by rw [hz 18 (by omega) (by omega)]; decide), fun h0 => absurd (q0g (by decide) h0) (by rw [hz 19 (by omega) (by omega)]; decide), fun h0 => absurd (q0g (by decide) h0) (by rw [hz 20 (by omega) (by omega)]; decide), fun h0 => absurd (q0g (by decide) h0) (by rw [hz 21 (by omega) (by omega)]; decide), fun h0 => absurd (q0g (by decide) h0) (by rw [hz 22 (by omega) (by omega)]; decide), fun h0 => absurd (q0g (by decide) h0) (by rw [hz 23 (by omega) (by omega)]; decide), fun h0 => absurd (q0g (by decide) h0) (by rw [hz 24 (by omega) (by omega)]; decide), fun h0 => absurd (q0g (by decide) h0) (by rw [hz 25 (by omega) (by omega)]; decide), fun h0 => absurd (q0g (by decide) h0) (by rw [hz 26 (by omega) (by omega)]; decide), fun h0 => absurd (q0g (by decide) h0) (by rw [hz 27 (by omega) (by omega)]; decide), fun h0 => absurd (q0g (by decide) h0) (by rw [hz 28 (by omega) (by omega)]; decide), fun h0 => absurd (q0g (by decide) h0) (by rw [hz 29 (by omega) (by omega)]; decide), fun h0 => absurd (q0g (by decide) h0) (by rw [hz 30 (by omega) (by omega)]; decide), fun h0 => absurd (q0g (by decide) h0) (by rw [hz 31 (by omega) (by omega)]; decide), fun h0 => absurd (q0g (by decide) h0) (by rw [hz 32 (by omega) (by omega)]; decide), fun h0 => absurd (q0g (by decide) h0) (by rw [hz 33 (by omega) (by omega)]; decide), fun h0 => absurd (q0g (by decide) h0) (by rw [hz 34 (by omega) (by omega)]; decide), fun h0 => absurd (q0g (by decide) h0) (by rw [hz 35 (by omega) (by omega)]; decide), fun h0 => absurd (q0g (by decide) h0) (by rw [hz 36 (by omega) (by omega)]; decide), fun h0 => absurd (q0g (by decide) h0) (by rw [hz 22 (by omega) (by omega)]; decide)⟩
 rw [q82, if_pos rfl, qz (show (33 : Nat) ≠ 14 by decide), hz 33 (by omega) (by omega), if_neg (by decide), List.append_nil, hq]
 exact ht h1
theorem WR.f33 (H : WR C c1 c2 d val w) (hz : ∀ j, 33 ≤ j -> j < 37 -> d j = false) (h14 : d 14 = true) (g0 : c1 = true) (g1 : C.B2 = true) {w' : World} {b : Bool} (ht : b = true -> C.Need w' ∧ C.J (C.ys ++ C.q1 ++ [C.p2]) w') (hf : b = false -> C.Jx (C.ys ++ C.q1 ++ [C.p2]) w') : WR C c1 b (don d 33) (setVl val 72 (.bool b)) w' := by
 have hq : C.q2 = [C.p2] := if_pos g1
 refine ⟨fun _ h2 => ?_, fun h => absurd h (by rw [g0]; decide), hf, fun h => absurd h14 (by rw [qz (by decide)] at h; rw [h]; decide), H.b1, fun h => absurd h (by rw [q82]; decide), fun h => absurd h (by rw [g1]; decide), fun h => absurd h (by rw [g0]; decide), wk1 H.v39, wk1 H.v40, wk1 H.v41, wk1 H.v42, wk1 H.v43, wk2 H.v44, wk2 H.v45, wk2 H.v46, wk2 H.v47, wk2 H.v48, wk2 H.v49, wk2 H.v50, wk2 H.v51, wk2 H.v52, wk2 H.v53, wk2 H.v54, wk1 H.v55, wk1 H.v56, wk2 H.v57, wk2 H.v58, wk2 H.v59, wk2 H.v60, wk2 H.v61, wk3 H.v62, wk3 H.v63, wk3 H.v64, wk3 H.v65, wk3 H.v66, wk3 H.v67, wk3 H.v68, wk3 H.v69, wk3 H.v70, wk3 H.v71, fun _ _ _ => q0n, fun h0 => absurd (q0g (by decide) h0) (by rw [hz 34 (by omega) (by omega)]; decide), fun h0 => absurd (q0g (by decide) h0) (by rw [hz 35 (by omega) (by omega)]; decide), fun h0 => absurd (q0g (by decide) h0) (by rw [hz 36 (by omega) (by omega)]; decide), wk2 H.v61u⟩
 rw [q82, if_pos rfl, qz (show (14 : Nat) ≠ 33 by decide), h14, if_pos rfl, hq]
 exact ht h2
end
end Go.Proofs.YtdanebboiekieaaGreatDoor
