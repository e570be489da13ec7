/- colour: what a register wishes: the second drawn region, with its guarded yield; printed by genwi4.py. -/
import Derived.Test.YtdanebboiekieaaGreatDoorQ29
import Derived.Test.YtdanebboiekieaaGreatDoorQ01
import Derived.Test.YtdanebboiekieaaGreatDoorRows
import Derived.IntWalk
namespace Go.Proofs.YtdanebboiekieaaGreatDoor
open Go.RowKit
set_option linter.unusedSimpArgs false
set_option linter.unusedVariables false
attribute [local go_sem] Oper.semAt_some

structure VC where
 r : Nat
 pm : Int
 PB : Nat
 Br : Nat
 Bp : Nat
 Rc : Nat
 lp : Nat
 ys : List Int
 J : List Int → World → Prop
 Jx : List Int → World → Prop
 Need : World → Prop
 cells : ∀ w, Need w → w.cell? ⟨Br, 0, none⟩ = some (.int .i64 (r : Int)) ∧ w.cell? ⟨Bp, 0, none⟩ = some (.pointer (some ⟨PB, 0, none⟩)) ∧ w.cell? ⟨PB, 1, none⟩ = some (.int .i64 pm)
 keep : ∀ w w', Need w → CKeep Rc w w' → Need w'
def VC.B (C : VC) : Bool := decide ((C.r : Int) < C.pm)
def VC.q (C : VC) : List Int := if C.B = true then [(C.r : Int)] else []
structure ActV (C : VC) (a0 : Act) : Prop where
 t0 : vals a0 0 = .func (.yield C.lp) #[] #[]
 t1 : vals a0 1 = .pointer (some ⟨C.Br, 0, none⟩)
 t2 : vals a0 2 = .pointer (some ⟨C.Bp, 0, none⟩)
def VIS : List Nat := [78, 79, 80, 81, 82, 83, 84, 85, 86, 87, 88, 89, 90]
structure VR (C : VC) (c : Bool) (d : Nat → Bool) (val : Nat → Value) (w : World) : Prop where
 lv : c = true → C.Need w ∧ C.J (C.ys ++ (if d 10 = true then C.q else [])) w
 x1 : c = false → C.Jx (C.ys ++ [(C.r : Int)]) w
 n1 : d 10 = false → c = true
 b1 : C.B = false → c = true
 v78 : d 0 = true → val 78 = (.int .i64 (C.r : Int))
 v79 : d 1 = true → val 79 = (.pointer (some ⟨C.PB, 0, none⟩))
 v80 : d 2 = true → val 80 = (.pointer (some ⟨C.PB, 0, none⟩))
 v81 : d 3 = true → val 81 = (.pointer (some ⟨C.PB, 0, none⟩))
 v82 : d 4 = true → val 82 = (.pointer (some ⟨C.PB, 1, none⟩))
 v83 : d 5 = true → val 83 = (.int .i64 C.pm)
 v84 : d 6 = true → val 84 = (.bool C.B)
 v85 : d 7 = true → val 85 = (.bool C.B)
 v86 : d 8 = true → C.B = true → val 86 = (.func (.yield C.lp) #[] #[])
 v87 : d 9 = true → C.B = true → val 87 = (.int .i64 (C.r : Int))
 v88 : d 10 = true → C.B = true → val 88 = (.bool c)
 v89 : d 11 = true → C.B = true → val 89 = (.bool (!c))
 v90 : d 12 = true → val 90 = (.bool (!c))
def VRI (C : VC) (d : Nat → Bool) (val : Nat → Value) (w : World) : Prop := ∃ c, VR C c d val w
section
variable {C : VC} {c : Bool} {d : Nat → Bool} {val : Nat → Value} {w : World} {a0 a : Act} {Q : Exit → Act → World → Prop} {o : Oper} {ops : Array Oper} {N : Nat}
theorem VR.f0 (H : VR C c d val w) : VR C c (don d 0) (setVl val 78 (.int .i64 (C.r : Int))) w :=
 ⟨fun h1 => by rw [don_of (by decide)]; exact H.lv h1, H.x1, fun h => H.n1 (by rwa [don_of (by decide)] at h), H.b1, fun _ => setVl_at, fun h0 => (setVl_of (by decide)).trans (H.v79 (don_ne (by decide) h0)), fun h0 => (setVl_of (by decide)).trans (H.v80 (don_ne (by decide) h0)), fun h0 => (setVl_of (by decide)).trans (H.v81 (don_ne (by decide) h0)), fun h0 => (setVl_of (by decide)).trans (H.v82 (don_ne (by decide) h0)), fun h0 => (setVl_of (by decide)).trans (H.v83 (don_ne (by decide) h0)), fun h0 => (setVl_of (by decide)).trans (H.v84 (don_ne (by decide) h0)), fun h0 => (setVl_of (by decide)).trans (H.v85 (don_ne (by decide) h0)), fun h0 h1 => (setVl_of (by decide)).trans (H.v86 (don_ne (by decide) h0) h1), fun h0 h1 => (setVl_of (by decide)).trans (H.v87 (don_ne (by decide) h0) h1), fun h0 h1 => (setVl_of (by decide)).trans (H.v88 (don_ne (by decide) h0) h1), fun h0 h1 => (setVl_of (by decide)).trans (H.v89 (don_ne (by decide) h0) h1), fun h0 => (setVl_of (by decide)).trans (H.v90 (don_ne (by decide) h0))⟩
theorem VR.f1 (H : VR C c d val w) : VR C c (don d 1) (setVl val 79 (.pointer (some ⟨C.PB, 0, none⟩))) w :=
 ⟨fun h1 => by rw [don_of (by decide)]; exact H.lv h1, H.x1, fun h => H.n1 (by rwa [don_of (by decide)] at h), H.b1, fun h0 => (setVl_of (by decide)).trans (H.v78 (don_ne (by decide) h0)), fun _ => setVl_at, fun h0 => (setVl_of (by decide)).trans (H.v80 (don_ne (by decide) h0)), fun h0 => (setVl_of (by decide)).trans (H.v81 (don_ne (by decide) h0)), fun h0 => (setVl_of (by decide)).trans (H.v82 (don_ne (by decide) h0)), fun h0 => (setVl_of (by decide)).trans (H.v83 (don_ne (by decide) h0)), fun h0 => (setVl_of (by decide)).trans (H.v84 (don_ne (by decide) h0)), fun h0 => (setVl_of (by decide)).trans (H.v85 (don_ne (by decide) h0)), fun h0 h1 => (setVl_of (by decide)).trans (H.v86 (don_ne (by decide) h0) h1), fun h0 h1 => (setVl_of (by decide)).trans (H.v87 (don_ne (by decide) h0) h1), fun h0 h1 => (setVl_of (by decide)).trans (H.v88 (don_ne (by decide) h0) h1), fun h0 h1 => (setVl_of (by decide)).trans (H.v89 (don_ne (by decide) h0) h1), fun h0 => (setVl_of (by decide)).trans (H.v90 (don_ne (by decide) h0))⟩
theorem VR.f2 (H : VR C c d val w) : VR C c (don d 2) (setVl val 80 (.pointer (some ⟨C.PB, 0, none⟩))) w :=
 ⟨fun h1 => by rw [don_of (by decide)]; exact H.lv h1, H.x1, fun h => H.n1 (by rwa [don_of (by decide)] at h), H.b1, fun h0 => (setVl_of (by decide)).trans (H.v78 (don_ne (by decide) h0)), fun h0 => (setVl_of (by decide)).trans (H.v79 (don_ne (by decide) h0)), fun _ => setVl_at, fun h0 => (setVl_of (by decide)).trans (H.v81 (don_ne (by decide) h0)), fun h0 => (setVl_of (by decide)).trans (H.v82 (don_ne (by decide) h0)), fun h0 => (setVl_of (by decide)).trans (H.v83 (don_ne (by decide) h0)), fun h0 => (setVl_of (by decide)).trans (H.v84 (don_ne (by decide) h0)), fun h0 => (setVl_of (by decide)).trans (H.v85 (don_ne (by decide) h0)), fun h0 h1 => (setVl_of (by decide)).trans (H.v86 (don_ne (by decide) h0) h1), fun h0 h1 => (setVl_of (by decide)).trans (H.v87 (don_ne (by decide) h0) h1), fun h0 h1 => (setVl_of (by decide)).trans (H.v88 (don_ne (by decide) h0) h1), fun h0 h1 => (setVl_of (by decide)).trans (H.v89 (don_ne (by decide) h0) h1), fun h0 => (setVl_of (by decide)).trans (H.v90 (don_ne (by decide) h0))⟩
theorem VR.f3 (H : VR C c d val w) : VR C c (don d 3) (setVl val 81 (.pointer (some ⟨C.PB, 0, none⟩))) w :=
 ⟨fun h1 => by rw [don_of (by decide)]; exact H.lv h1, H.x1, fun h => H.n1 (by rwa [don_of (by decide)] at h), H.b1, fun h0 => (setVl_of (by decide)).trans (H.v78 (don_ne (by decide) h0)), fun h0 => (setVl_of (by decide)).trans (H.v79 (don_ne (by decide) h0)), fun h0 => (setVl_of (by decide)).trans (H.v80 (don_ne (by decide) h0)), fun _ => setVl_at, fun h0 => (setVl_of (by decide)).trans (H.v82 (don_ne (by decide) h0)), fun h0 => (setVl_of (by decide)).trans (H.v83 (don_ne (by decide) h0)), fun h0 => (setVl_of (by decide)).trans (H.v84 (don_ne (by decide) h0)), fun h0 => (setVl_of (by decide)).trans (H.v85 (don_ne (by decide) h0)), fun h0 h1 => (setVl_of (by decide)).trans (H.v86 (don_ne (by decide) h0) h1), fun h0 h1 => (setVl_of (by decide)).trans (H.v87 (don_ne (by decide) h0) h1), fun h0 h1 => (setVl_of (by decide)).trans (H.v88 (don_ne (by decide) h0) h1), fun h0 h1 => (setVl_of (by decide)).trans (H.v89 (don_ne (by decide) h0) h1), fun h0 => (setVl_of (by decide)).trans (H.v90 (don_ne (by decide) h0))⟩
theorem VR.f4 (H : VR C c d val w) : VR C c (don d 4) (setVl val 82 (.pointer (some ⟨C.PB, 1, none⟩))) w :=
 ⟨fun h1 => by rw [don_of (by decide)]; exact H.lv h1, H.x1, fun h => H.n1 (by rwa [don_of (by decide)] at h), H.b1, fun h0 => (setVl_of (by decide)).trans (H.v78 (don_ne (by decide) h0)), fun h0 => (setVl_of (by decide)).trans (H.v79 (don_ne (by decide) h0)), fun h0 => (setVl_of (by decide)).trans (H.v80 (don_ne (by decide) h0)), fun h0 => (setVl_of (by decide)).trans (H.v81 (don_ne (by decide) h0)), fun _ => setVl_at, fun h0 => (setVl_of (by decide)).trans (H.v83 (don_ne (by decide) h0)), fun h0 => (setVl_of (by decide)).trans (H.v84 (don_ne (by decide) h0)), fun h0 => (setVl_of (by decide)).trans (H.v85 (don_ne (by decide) h0)), fun h0 h1 => (setVl_of (by decide)).trans (H.v86 (don_ne (by decide) h0) h1), fun h0 h1 => (setVl_of (by decide)).trans (H.v87 (don_ne (by decide) h0) h1), fun h0 h1 => (setVl_of (by decide)).trans (H.v88 (don_ne (by decide) h0) h1), fun h0 h1 => (setVl_of (by decide)).trans (H.v89 (don_ne (by decide) h0) h1), fun h0 => (setVl_of (by decide)).trans (H.v90 (don_ne (by decide) h0))⟩
theorem VR.f5 (H : VR C c d val w) : VR C c (don d 5) (setVl val 83 (.int .i64 C.pm)) w :=
 ⟨fun h1 => by rw [don_of (by decide)]; exact H.lv h1, H.x1, fun h => H.n1 (by rwa [don_of (by decide)] at h), H.b1, fun h0 => (setVl_of (by decide)).trans (H.v78 (don_ne (by decide) h0)), fun h0 => (setVl_of (by decide)).trans (H.v79 (don_ne (by decide) h0)), fun h0 => (setVl_of (by decide)).trans (H.v80 (don_ne (by decide) h0)), fun h0 => (setVl_of (by decide)).trans (H.v81 (don_ne (by decide) h0)), fun h0 => (setVl_of (by decide)).trans (H.v82 (don_ne (by decide) h0)), fun _ => setVl_at, fun h0 => (setVl_of (by decide)).trans (H.v84 (don_ne (by decide) h0)), fun h0 => (setVl_of (by decide)).trans (H.v85 (don_ne (by decide) h0)), fun h0 h1 => (setVl_of (by decide)).trans (H.v86 (don_ne (by decide) h0) h1), fun h0 h1 => (setVl_of (by decide)).trans (H.v87 (don_ne (by decide) h0) h1), fun h0 h1 => (setVl_of (by decide)).trans (H.v88 (don_ne (by decide) h0) h1), fun h0 h1 => (setVl_of (by decide)).trans (H.v89 (don_ne (by decide) h0) h1), fun h0 => (setVl_of (by decide)).trans (H.v90 (don_ne (by decide) h0))⟩
theorem VR.f6 (H : VR C c d val w) : VR C c (don d 6) (setVl val 84 (.bool C.B)) w :=
 ⟨fun h1 => by rw [don_of (by decide)]; exact H.lv h1, H.x1, fun h => H.n1 (by rwa [don_of (by decide)] at h), H.b1, fun h0 => (setVl_of (by decide)).trans (H.v78 (don_ne (by decide) h0)), fun h0 => (setVl_of (by decide)).trans (H.v79 (don_ne (by decide) h0)), fun h0 => (setVl_of (by decide)).trans (H.v80 (don_ne (by decide) h0)), fun h0 => (setVl_of (by decide)).trans (H.v81 (don_ne (by decide) h0)), fun h0 => (setVl_of (by decide)).trans (H.v82 (don_ne (by decide) h0)), fun h0 => (setVl_of (by decide)).trans (H.v83 (don_ne (by decide) h0)), fun _ => setVl_at, fun h0 => (setVl_of (by decide)).trans (H.v85 (don_ne (by decide) h0)), fun h0 h1 => (setVl_of (by decide)).trans (H.v86 (don_ne (by decide) h0) h1), fun h0 h1 => (setVl_of (by decide)).trans (H.v87 (don_ne (by decide) h0) h1), fun h0 h1 => (setVl_of (by decide)).trans (H.v88 (don_ne (by decide) h0) h1), fun h0 h1 => (setVl_of (by decide)).trans (H.v89 (don_ne (by decide) h0) h1), fun h0 => (setVl_of (by decide)).trans (H.v90 (don_ne (by decide) h0))⟩
theorem VR.f7 (H : VR C c d val w) : VR C c (don d 7) (setVl val 85 (.bool C.B)) w :=
 ⟨fun h1 => by rw [don_of (by decide)]; exact H.lv h1, H.x1, fun h => H.n1 (by rwa [don_of (by decide)] at h), H.b1, fun h0 => (setVl_of (by decide)).trans (H.v78 (don_ne (by decide) h0)), fun h0 => (setVl_of (by decide)).trans (H.v79 (don_ne (by decide) h0)), fun h0 => (setVl_of (by decide)).trans (H.v80 (don_ne (by decide) h0)), fun h0 => (setVl_of (by decide)).trans (H.v81 (don_ne (by decide) h0)), fun h0 => (setVl_of (by decide)).trans (H.v82 (don_ne (by decide) h0)), fun h0 => (setVl_of (by decide)).trans (H.v83 (don_ne (by decide) h0)), fun h0 => (setVl_of (by decide)).trans (H.v84 (don_ne (by decide) h0)), fun _ => setVl_at, fun h0 h1 => (setVl_of (by decide)).trans (H.v86 (don_ne (by decide) h0) h1), fun h0 h1 => (setVl_of (by decide)).trans (H.v87 (don_ne (by decide) h0) h1), fun h0 h1 => (setVl_of (by decide)).trans (H.v88 (don_ne (by decide) h0) h1), fun h0 h1 => (setVl_of (by decide)).trans (H.v89 (don_ne (by decide) h0) h1), fun h0 => (setVl_of (by decide)).trans (H.v90 (don_ne (by decide) h0))⟩
theorem VR.f8 (H : VR C c d val w) (g0 : C.B = true) : VR C c (don d 8) (setVl val 86 (.func (.yield C.lp) #[] #[])) w :=
 ⟨fun h1 => by rw [don_of (by decide)]; exact H.lv h1, H.x1, fun h => H.n1 (by rwa [don_of (by decide)] at h), H.b1, fun h0 => (setVl_of (by decide)).trans (H.v78 (don_ne (by decide) h0)), fun h0 => (setVl_of (by decide)).trans (H.v79 (don_ne (by decide) h0)), fun h0 => (setVl_of (by decide)).trans (H.v80 (don_ne (by decide) h0)), fun h0 => (setVl_of (by decide)).trans (H.v81 (don_ne (by decide) h0)), fun h0 => (setVl_of (by decide)).trans (H.v82 (don_ne (by decide) h0)), fun h0 => (setVl_of (by decide)).trans (H.v83 (don_ne (by decide) h0)), fun h0 => (setVl_of (by decide)).trans (H.v84 (don_ne (by decide) h0)), fun h0 => (setVl_of (by decide)).trans (H.v85 (don_ne (by decide) h0)), fun _ _ => setVl_at, fun h0 h1 => (setVl_of (by decide)).trans (H.v87 (don_ne (by decide) h0) h1), fun h0 h1 => (setVl_of (by decide)).trans (H.v88 (don_ne (by decide) h0) h1), fun h0 h1 => (setVl_of (by decide)).trans (H.v89 (don_ne (by decide) h0) h1), fun h0 => (setVl_of (by decide)).trans (H.v90 (don_ne (by decide) h0))⟩
theorem VR.u8 (H : VR C c d val w) (g : C.B = false) : VR C c (don d 8) (setVl val 86 undef) w :=
 ⟨fun h1 => by rw [don_of (by decide)]; exact H.lv h1, H.x1, fun h => H.n1 (by rwa [don_of (by decide)] at h), H.b1, fun h0 => (setVl_of (by decide)).trans (H.v78 (don_ne (by decide) h0)), fun h0 => (setVl_of (by decide)).trans (H.v79 (don_ne (by decide) h0)), fun h0 => (setVl_of (by decide)).trans (H.v80 (don_ne (by decide) h0)), fun h0 => (setVl_of (by decide)).trans (H.v81 (don_ne (by decide) h0)), fun h0 => (setVl_of (by decide)).trans (H.v82 (don_ne (by decide) h0)), fun h0 => (setVl_of (by decide)).trans (H.v83 (don_ne (by decide) h0)), fun h0 => (setVl_of (by decide)).trans (H.v84 (don_ne (by decide) h0)), fun h0 => (setVl_of (by decide)).trans (H.v85 (don_ne (by decide) h0)), fun h0 h1 => absurd h1 (by rw [g]; decide), fun h0 h1 => (setVl_of (by decide)).trans (H.v87 (don_ne (by decide) h0) h1), fun h0 h1 => (setVl_of (by decide)).trans (H.v88 (don_ne (by decide) h0) h1), fun h0 h1 => (setVl_of (by decide)).trans (H.v89 (don_ne (by decide) h0) h1), fun h0 => (setVl_of (by decide)).trans (H.v90 (don_ne (by decide) h0))⟩
theorem VR.f9 (H : VR C c d val w) (g0 : C.B = true) : VR C c (don d 9) (setVl val 87 (.int .i64 (C.r : Int))) w :=
 ⟨fun h1 => by rw [don_of (by decide)]; exact H.lv h1, H.x1, fun h => H.n1 (by rwa [don_of (by decide)] at h), H.b1, fun h0 => (setVl_of (by decide)).trans (H.v78 (don_ne (by decide) h0)), fun h0 => (setVl_of (by decide)).trans (H.v79 (don_ne (by decide) h0)), fun h0 => (setVl_of (by decide)).trans (H.v80 (don_ne (by decide) h0)), fun h0 => (setVl_of (by decide)).trans (H.v81 (don_ne (by decide) h0)), fun h0 => (setVl_of (by decide)).trans (H.v82 (don_ne (by decide) h0)), fun h0 => (setVl_of (by decide)).trans (H.v83 (don_ne (by decide) h0)), fun h0 => (setVl_of (by decide)).trans (H.v84 (don_ne (by decide) h0)), fun h0 => (setVl_of (by decide)).trans (H.v85 (don_ne (by decide) h0)), fun h0 h1 => (setVl_of (by decide)).trans (H.v86 (don_ne (by decide) h0) h1), fun _ _ => setVl_at, fun h0 h1 => (setVl_of (by decide)).trans (H.v88 (don_ne (by decide) h0) h1), fun h0 h1 => (setVl_of (by decide)).trans (H.v89 (don_ne (by decide) h0) h1), fun h0 => (setVl_of (by decide)).trans (H.v90 (don_ne (by decide) h0))⟩
theorem VR.u9 (H : VR C c d val w) (g : C.B = false) : VR C c (don d 9) (setVl val 87 undef) w :=
 ⟨fun h1 => by rw [don_of (by decide)]; exact H.lv h1, H.x1, fun h => H.n1 (by rwa [don_of (by decide)] at h), H.b1, fun h0 => (setVl_of (by decide)).trans (H.v78 (don_ne (by decide) h0)), fun h0 => (setVl_of (by decide)).trans (H.v79 (don_ne (by decide) h0)), fun h0 => (setVl_of (by decide)).trans (H.v80 (don_ne (by decide) h0)), fun h0 => (setVl_of (by decide)).trans (H.v81 (don_ne (by decide) h0)), fun h0 => (setVl_of (by decide)).trans (H.v82 (don_ne (by decide) h0)), fun h0 => (setVl_of (by decide)).trans (H.v83 (don_ne (by decide) h0)), fun h0 => (setVl_of (by decide)).trans (H.v84 (don_ne (by decide) h0)), fun h0 => (setVl_of (by decide)).trans (H.v85 (don_ne (by decide) h0)), fun h0 h1 => (setVl_of (by decide)).trans (H.v86 (don_ne (by decide) h0) h1), fun h0 h1 => absurd h1 (by rw [g]; decide), fun h0 h1 => (setVl_of (by decide)).trans (H.v88 (don_ne (by decide) h0) h1), fun h0 h1 => (setVl_of (by decide)).trans (H.v89 (don_ne (by decide) h0) h1), fun h0 => (setVl_of (by decide)).trans (H.v90 (don_ne (by decide) h0))⟩
theorem VR.f11 (H : VR C c d val w) (g0 : C.B = true) : VR C c (don d 11) (setVl val 89 (.bool (!c))) w :=
 ⟨fun h1 => by rw [don_of (by decide)]; exact H.lv h1, H.x1, fun h => H.n1 (by rwa [don_of (by decide)] at h), H.b1, fun h0 => (setVl_of (by decide)).trans (H.v78 (don_ne (by decide) h0)), fun h0 => (setVl_of (by decide)).trans (H.v79 (don_ne (by decide) h0)), fun h0 => (setVl_of (by decide)).trans (H.v80 (don_ne (by decide) h0)), fun h0 => (setVl_of (by decide)).trans (H.v81 (don_ne (by decide) h0)), fun h0 => (setVl_of (by decide)).trans (H.v82 (don_ne (by decide) h0)), fun h0 => (setVl_of (by decide)).trans (H.v83 (don_ne (by decide) h0)), fun h0 => (setVl_of (by decide)).trans (H.v84 (don_ne (by decide) h0)), fun h0 => (setVl_of (by decide)).trans (H.v85 (don_ne (by decide) h0)), fun h0 h1 => (setVl_of (by decide)).trans (H.v86 (don_ne (by decide) h0) h1), fun h0 h1 => (setVl_of (by decide)).trans (H.v87 (don_ne (by decide) h0) h1), fun h0 h1 => (setVl_of (by decide)).trans (H.v88 (don_ne (by decide) h0) h1), fun _ _ => setVl_at, fun h0 => (setVl_of (by decide)).trans (H.v90 (don_ne (by decide) h0))⟩
theorem VR.u11 (H : VR C c d val w) (g : C.B = false) : VR C c (don d 11) (setVl val 89 undef) w :=
 ⟨fun h1 => by rw [don_of (by decide)]; exact H.lv h1, H.x1, fun h => H.n1 (by rwa [don_of (by decide)] at h), H.b1, fun h0 => (setVl_of (by decide)).trans (H.v78 (don_ne (by decide) h0)), fun h0 => (setVl_of (by decide)).trans (H.v79 (don_ne (by decide) h0)), fun h0 => (setVl_of (by decide)).trans (H.v80 (don_ne (by decide) h0)), fun h0 => (setVl_of (by decide)).trans (H.v81 (don_ne (by decide) h0)), fun h0 => (setVl_of (by decide)).trans (H.v82 (don_ne (by decide) h0)), fun h0 => (setVl_of (by decide)).trans (H.v83 (don_ne (by decide) h0)), fun h0 => (setVl_of (by decide)).trans (H.v84 (don_ne (by decide) h0)), fun h0 => (setVl_of (by decide)).trans (H.v85 (don_ne (by decide) h0)), fun h0 h1 => (setVl_of (by decide)).trans (H.v86 (don_ne (by decide) h0) h1), fun h0 h1 => (setVl_of (by decide)).trans (H.v87 (don_ne (by decide) h0) h1), fun h0 h1 => (setVl_of (by decide)).trans (H.v88 (don_ne (by decide) h0) h1), fun h0 h1 => absurd h1 (by rw [g]; decide), fun h0 => (setVl_of (by decide)).trans (H.v90 (don_ne (by decide) h0))⟩
theorem VR.f12 (H : VR C c d val w) : VR C c (don d 12) (setVl val 90 (.bool (!c))) w :=
 ⟨fun h1 => by rw [don_of (by decide)]; exact H.lv h1, H.x1, fun h => H.n1 (by rwa [don_of (by decide)] at h), H.b1, fun h0 => (setVl_of (by decide)).trans (H.v78 (don_ne (by decide) h0)), fun h0 => (setVl_of (by decide)).trans (H.v79 (don_ne (by decide) h0)), fun h0 => (setVl_of (by decide)).trans (H.v80 (don_ne (by decide) h0)), fun h0 => (setVl_of (by decide)).trans (H.v81 (don_ne (by decide) h0)), fun h0 => (setVl_of (by decide)).trans (H.v82 (don_ne (by decide) h0)), fun h0 => (setVl_of (by decide)).trans (H.v83 (don_ne (by decide) h0)), fun h0 => (setVl_of (by decide)).trans (H.v84 (don_ne (by decide) h0)), fun h0 => (setVl_of (by decide)).trans (H.v85 (don_ne (by decide) h0)), fun h0 h1 => (setVl_of (by decide)).trans (H.v86 (don_ne (by decide) h0) h1), fun h0 h1 => (setVl_of (by decide)).trans (H.v87 (don_ne (by decide) h0) h1), fun h0 h1 => (setVl_of (by decide)).trans (H.v88 (don_ne (by decide) h0) h1), fun h0 h1 => (setVl_of (by decide)).trans (H.v89 (don_ne (by decide) h0) h1), fun _ => setVl_at⟩
theorem VR.u10 (H : VR C c d val w) (g : C.B = false) : VR C c (don d 10) (setVl val 88 undef) w := by
 have hq : C.q = [] := if_neg (by rw [g]; decide)
 refine ⟨fun h1 => ?_, H.x1, fun _ => H.b1 g, H.b1, fun h0 => (setVl_of (by decide)).trans (H.v78 (don_ne (by decide) h0)), fun h0 => (setVl_of (by decide)).trans (H.v79 (don_ne (by decide) h0)), fun h0 => (setVl_of (by decide)).trans (H.v80 (don_ne (by decide) h0)), fun h0 => (setVl_of (by decide)).trans (H.v81 (don_ne (by decide) h0)), fun h0 => (setVl_of (by decide)).trans (H.v82 (don_ne (by decide) h0)), fun h0 => (setVl_of (by decide)).trans (H.v83 (don_ne (by decide) h0)), fun h0 => (setVl_of (by decide)).trans (H.v84 (don_ne (by decide) h0)), fun h0 => (setVl_of (by decide)).trans (H.v85 (don_ne (by decide) h0)), fun h0 h1 => (setVl_of (by decide)).trans (H.v86 (don_ne (by decide) h0) h1), fun h0 h1 => (setVl_of (by decide)).trans (H.v87 (don_ne (by decide) h0) h1), fun h0 h1 => absurd h1 (by rw [g]; decide), fun h0 h1 => (setVl_of (by decide)).trans (H.v89 (don_ne (by decide) h0) h1), fun h0 => (setVl_of (by decide)).trans (H.v90 (don_ne (by decide) h0))⟩
 have h3 := H.lv h1
 rw [hq, ite_self] at h3 ⊢
 exact h3
theorem VR.f10 (H : VR C c d val w) (hz : ∀ j, 10 ≤ j → j < 13 → d j = false) (g0 : C.B = true) {w' : World} {b : Bool} (ht : b = true → C.Need w' ∧ C.J (C.ys ++ [(C.r : Int)]) w') (hf : b = false → C.Jx (C.ys ++ [(C.r : Int)]) w') : VR C b (don d 10) (setVl val 88 (.bool b)) w' := by
 have hq : C.q = [(C.r : Int)] := if_pos g0
 refine ⟨fun h1 => ?_, hf, fun h => absurd h (by rw [don_at]; decide), fun h => absurd h (by rw [g0]; decide), fun h0 => (setVl_of (by decide)).trans (H.v78 (don_ne (by decide) h0)), fun h0 => (setVl_of (by decide)).trans (H.v79 (don_ne (by decide) h0)), fun h0 => (setVl_of (by decide)).trans (H.v80 (don_ne (by decide) h0)), fun h0 => (setVl_of (by decide)).trans (H.v81 (don_ne (by decide) h0)), fun h0 => (setVl_of (by decide)).trans (H.v82 (don_ne (by decide) h0)), fun h0 => (setVl_of (by decide)).trans (H.v83 (don_ne (by decide) h0)), fun h0 => (setVl_of (by decide)).trans (H.v84 (don_ne (by decide) h0)), fun h0 => (setVl_of (by decide)).trans (H.v85 (don_ne (by decide) h0)), fun h0 h1 => (setVl_of (by decide)).trans (H.v86 (don_ne (by decide) h0) h1), fun h0 h1 => (setVl_of (by decide)).trans (H.v87 (don_ne (by decide) h0) h1), fun _ _ => setVl_at, fun h0 => absurd (don_ne (by decide) h0) (by rw [hz 11 (by omega) (by omega)]; decide), fun h0 => absurd (don_ne (by decide) h0) (by rw [hz 12 (by omega) (by omega)]; decide)⟩
 rw [don_at, if_pos rfl, hq]
 exact ht h1
theorem VR.q0 (H : VR C c d (vals a) w) (hag : Ag VIS a0 a) (HA : ActV C a0) (hw : Region.wanted o (yielded ops a.tmps) = true) (hdst : o.dst = some 78) (z10 : d 10 = false) (hop : o.op = .load 3 (.tmp 1)) : StepIn Fence.wide N Tryz.prog ops Q VIS a0 (VRI C) d 0 o a w := by
 have hN := (H.lv (H.n1 z10)).1
 obtain ⟨m0, m1, m2⟩ := C.cells w hN
 have e1 : a.eval (.tmp 1) = _ := (hag.old (by decide)).trans HA.t1
 refine stepIn_value (v := (.int .i64 (C.r : Int))) (w' := w) hag hdst (by decide) hw (fun _ _ => trivial) (by rw [hop]; intro c h; cases h) (by
  simp only [execOp, hop, e1]
  simp [go_sem, m0]) ⟨c, H.f0⟩
theorem VR.q1 (H : VR C c d (vals a) w) (hag : Ag VIS a0 a) (HA : ActV C a0) (hw : Region.wanted o (yielded ops a.tmps) = true) (hdst : o.dst = some 79) (z10 : d 10 = false) (hop : o.op = .load 93 (.tmp 2)) : StepIn Fence.wide N Tryz.prog ops Q VIS a0 (VRI C) d 1 o a w := by
 have hN := (H.lv (H.n1 z10)).1
 obtain ⟨m0, m1, m2⟩ := C.cells w hN
 have e2 : a.eval (.tmp 2) = _ := (hag.old (by decide)).trans HA.t2
 refine stepIn_value (v := (.pointer (some ⟨C.PB, 0, none⟩))) (w' := w) hag hdst (by decide) hw (fun _ _ => trivial) (by rw [hop]; intro c h; cases h) (by
  simp only [execOp, hop, e2]
  simp [go_sem, m1]) ⟨c, H.f1⟩
theorem VR.q2 (H : VR C c d (vals a) w) (hag : Ag VIS a0 a) (HA : ActV C a0) (hw : Region.wanted o (yielded ops a.tmps) = true) (hdst : o.dst = some 80) (h1 : d 1 = true) (hop : o.op = .nilCheck (.tmp 79)) : StepIn Fence.wide N Tryz.prog ops Q VIS a0 (VRI C) d 2 o a w := by
 have e79 : a.eval (.tmp 79) = _ := H.v79 h1
 refine stepIn_value (v := (.pointer (some ⟨C.PB, 0, none⟩))) (w' := w) hag hdst (by decide) hw (fun _ _ => trivial) (by rw [hop]; intro c h; cases h) (by
  simp only [execOp, hop, e79]
  simp [go_sem]) ⟨c, H.f2⟩
theorem VR.q3 (H : VR C c d (vals a) w) (hag : Ag VIS a0 a) (HA : ActV C a0) (hw : Region.wanted o (yielded ops a.tmps) = true) (hdst : o.dst = some 81) (h2 : d 2 = true) (hop : o.op = .fieldAddr 96 (.tmp 80) 0) : StepIn Fence.wide N Tryz.prog ops Q VIS a0 (VRI C) d 3 o a w := by
 have e80 : a.eval (.tmp 80) = _ := H.v80 h2
 refine stepIn_value (v := (.pointer (some ⟨C.PB, 0, none⟩))) (w' := w) hag hdst (by decide) hw (fun _ _ => trivial) (by rw [hop]; intro c h; cases h) (by
  simp only [execOp, hop, e80]
  simp [go_sem]) ⟨c, H.f3⟩
theorem VR.q4 (H : VR C c d (vals a) w) (hag : Ag VIS a0 a) (HA : ActV C a0) (hw : Region.wanted o (yielded ops a.tmps) = true) (hdst : o.dst = some 82) (h3 : d 3 = true) (hop : o.op = .fieldAddr 56 (.tmp 81) 1) : StepIn Fence.wide N Tryz.prog ops Q VIS a0 (VRI C) d 4 o a w := by
 have e81 : a.eval (.tmp 81) = _ := H.v81 h3
 refine stepIn_value (v := (.pointer (some ⟨C.PB, 1, none⟩))) (w' := w) hag hdst (by decide) hw (fun _ _ => trivial) (by rw [hop]; intro c h; cases h) (by
  simp only [execOp, hop, e81]
  simp [go_sem]) ⟨c, H.f4⟩
theorem VR.q5 (H : VR C c d (vals a) w) (hag : Ag VIS a0 a) (HA : ActV C a0) (hw : Region.wanted o (yielded ops a.tmps) = true) (hdst : o.dst = some 83) (h4 : d 4 = true) (z10 : d 10 = false) (hop : o.op = .load 3 (.tmp 82)) : StepIn Fence.wide N Tryz.prog ops Q VIS a0 (VRI C) d 5 o a w := by
 have hN := (H.lv (H.n1 z10)).1
 obtain ⟨m0, m1, m2⟩ := C.cells w hN
 have e82 : a.eval (.tmp 82) = _ := H.v82 h4
 refine stepIn_value (v := (.int .i64 C.pm)) (w' := w) hag hdst (by decide) hw (fun _ _ => trivial) (by rw [hop]; intro c h; cases h) (by
  simp only [execOp, hop, e82]
  simp [go_sem, m2]) ⟨c, H.f5⟩
theorem VR.q6 (H : VR C c d (vals a) w) (hag : Ag VIS a0 a) (HA : ActV C a0) (hw : Region.wanted o (yielded ops a.tmps) = true) (hdst : o.dst = some 84) (h0 : d 0 = true) (h5 : d 5 = true) (hop : o.op = .binOp .lss 3 (.tmp 78) (.tmp 83) 3) : StepIn Fence.wide N Tryz.prog ops Q VIS a0 (VRI C) d 6 o a w := by
 have e78 : a.eval (.tmp 78) = _ := H.v78 h0
 have e83 : a.eval (.tmp 83) = _ := H.v83 h5
 refine stepIn_value (v := (.bool C.B)) (w' := w) hag hdst (by decide) hw (fun _ _ => trivial) (by rw [hop]; intro c h; cases h) (by
  simp only [execOp, hop, e78, e83]
  simp [go_sem, VC.B]) ⟨c, H.f6⟩
theorem VR.q7 (H : VR C c d (vals a) w) (hag : Ag VIS a0 a) (HA : ActV C a0) (hw : Region.wanted o (yielded ops a.tmps) = true) (hdst : o.dst = some 85) (h6 : d 6 = true) (hop : o.op = .move (.tmp 84)) : StepIn Fence.wide N Tryz.prog ops Q VIS a0 (VRI C) d 7 o a w := by
 have e84 : a.eval (.tmp 84) = _ := H.v84 h6
 refine stepIn_value (v := (.bool C.B)) (w' := w) hag hdst (by decide) hw (fun _ _ => trivial) (by rw [hop]; intro c h; cases h) (by
  simp only [execOp, hop, e84]
  rfl) ⟨c, H.f7⟩
theorem VR.q8 (H : VR C c d (vals a) w) (hag : Ag VIS a0 a) (HA : ActV C a0) (hw : Region.wanted o (yielded ops a.tmps) = true) (hdst : o.dst = some 86) (g0 : C.B = true) (hop : o.op = .move (.tmp 0)) : StepIn Fence.wide N Tryz.prog ops Q VIS a0 (VRI C) d 8 o a w := by
 have e0 : a.eval (.tmp 0) = _ := (hag.old (by decide)).trans HA.t0
 refine stepIn_value (v := (.func (.yield C.lp) #[] #[])) (w' := w) hag hdst (by decide) hw (fun _ _ => trivial) (by rw [hop]; intro c h; cases h) (by
  simp only [execOp, hop, e0]
  rfl) ⟨c, H.f8 g0⟩
theorem VR.q9 (H : VR C c d (vals a) w) (hag : Ag VIS a0 a) (HA : ActV C a0) (hw : Region.wanted o (yielded ops a.tmps) = true) (hdst : o.dst = some 87) (g0 : C.B = true) (z10 : d 10 = false) (hop : o.op = .load 3 (.tmp 1)) : StepIn Fence.wide N Tryz.prog ops Q VIS a0 (VRI C) d 9 o a w := by
 have hN := (H.lv (H.n1 z10)).1
 obtain ⟨m0, m1, m2⟩ := C.cells w hN
 have e1 : a.eval (.tmp 1) = _ := (hag.old (by decide)).trans HA.t1
 refine stepIn_value (v := (.int .i64 (C.r : Int))) (w' := w) hag hdst (by decide) hw (fun _ _ => trivial) (by rw [hop]; intro c h; cases h) (by
  simp only [execOp, hop, e1]
  simp [go_sem, m0]) ⟨c, H.f9 g0⟩
theorem VR.q11 (H : VR C c d (vals a) w) (hag : Ag VIS a0 a) (HA : ActV C a0) (hw : Region.wanted o (yielded ops a.tmps) = true) (hdst : o.dst = some 89) (h10 : d 10 = true) (g0 : C.B = true) (hop : o.op = .unOp .not 4 (.tmp 88)) : StepIn Fence.wide N Tryz.prog ops Q VIS a0 (VRI C) d 11 o a w := by
 have e88 : a.eval (.tmp 88) = _ := H.v88 h10 g0
 refine stepIn_value (v := (.bool (!c))) (w' := w) hag hdst (by decide) hw (fun _ _ => trivial) (by rw [hop]; intro c h; cases h) (by
  simp only [execOp, hop, e88]
  simp [go_sem]) ⟨c, H.f11 g0⟩
theorem VR.q12 (H : VR C c d (vals a) w) (hag : Ag VIS a0 a) (HA : ActV C a0) (hw : Region.wanted o (yielded ops a.tmps) = true) (hdst : o.dst = some 90) (h7 : d 7 = true) (h11 : d 11 = true) (hop : o.op = .pick (.tmp 85) (.tmp 89) (.const (.bool false))) : StepIn Fence.wide N Tryz.prog ops Q VIS a0 (VRI C) d 12 o a w := by
 have e85 : a.eval (.tmp 85) = _ := H.v85 h7
 refine stepIn_value (v := .bool (!c)) (w' := w) hag hdst (by decide) hw (fun _ _ => trivial) (by rw [hop]; intro c h; cases h) (by
  cases hb : C.B
  ·rw [hb] at e85
   have := H.b1 hb
   subst this
   simp only [execOp, hop, e85]
   rfl
  ·rw [hb] at e85
   have e89 : a.eval (.tmp 89) = _ := H.v89 h11 hb
   simp only [execOp, hop, e85, e89]
   rfl) ⟨c, H.f12⟩
theorem VR.s8 (H : VR C c d (vals a) w) (hag : Ag VIS a0 a) (hw : Region.wanted o (yielded ops a.tmps) = false) (hdst : o.dst = some 86) (g : C.B = false) : StepIn Fence.wide N Tryz.prog ops Q VIS a0 (VRI C) d 8 o a w :=
 stepIn_not hag hdst (by decide) hw (fun _ _ => trivial) ⟨c, H.u8 g⟩
theorem VR.s9 (H : VR C c d (vals a) w) (hag : Ag VIS a0 a) (hw : Region.wanted o (yielded ops a.tmps) = false) (hdst : o.dst = some 87) (g : C.B = false) : StepIn Fence.wide N Tryz.prog ops Q VIS a0 (VRI C) d 9 o a w :=
 stepIn_not hag hdst (by decide) hw (fun _ _ => trivial) ⟨c, H.u9 g⟩
theorem VR.s10 (H : VR C c d (vals a) w) (hag : Ag VIS a0 a) (hw : Region.wanted o (yielded ops a.tmps) = false) (hdst : o.dst = some 88) (g : C.B = false) : StepIn Fence.wide N Tryz.prog ops Q VIS a0 (VRI C) d 10 o a w :=
 stepIn_not hag hdst (by decide) hw (fun _ _ => trivial) ⟨c, H.u10 g⟩
theorem VR.s11 (H : VR C c d (vals a) w) (hag : Ag VIS a0 a) (hw : Region.wanted o (yielded ops a.tmps) = false) (hdst : o.dst = some 89) (g : C.B = false) : StepIn Fence.wide N Tryz.prog ops Q VIS a0 (VRI C) d 11 o a w :=
 stepIn_not hag hdst (by decide) hw (fun _ _ => trivial) ⟨c, H.u11 g⟩
def YieldsV (C : VC) (N : Nat) (ys : List Int) (v : Int) : Prop := ∀ W, C.J ys W → YieldAt Fence.wide (N - 1) Tryz.prog C.lp #[.int .i64 v] W fun e W' => (e = .returned (.bool true) ∧ C.J (ys ++ [v]) W' ∧ CKeep C.Rc W W') ∨ (e = .returned (.bool false) ∧ C.Jx (ys ++ [v]) W')
theorem VR.q10 (H : VR C c d (vals a) w) (hag : Ag VIS a0 a) (HA : ActV C a0) (hw : Region.wanted o (yielded ops a.tmps) = true) (hdst : o.dst = some 88) (h8 : d 8 = true) (h9 : d 9 = true) (g0 : C.B = true) (hz : ∀ j, 10 ≤ j → j < 13 → d j = false)
 (hY : YieldsV C N C.ys C.r) (hop : o.op = .call { callee := .value (.tmp 86), args := #[.tmp 87], argTypes := #[3] }) : StepIn Fence.wide N Tryz.prog ops Q VIS a0 (VRI C) d 10 o a w := by
 have e1 : a.eval (.tmp 86) = _ := H.v86 h8 g0
 have e2 : a.eval (.tmp 87) = _ := H.v87 h9 g0
 have hL := H.lv (H.n1 (hz 10 (by omega) (by omega)))
 rw [hz 10 (by omega) (by omega), if_neg (by decide), List.append_nil] at hL
 obtain ⟨fn5, tm5, as5, bd5, hy5, hR5⟩ := hY w hL.2
 refine stepIn_yield hag hdst (by decide) hw (fun _ _ => trivial) (by rw [hop]; intro c h; cases h) (fun h => by cases h) (by
  simp only [execOp, hop, resolve, e1, e2]
  simp [go_sem, e1, (by rw [← Array.getD_eq_getD_getElem?]; exact e2 : a.tmps[87]?.getD undef = .int .i64 (C.r : Int)), hy5]) hR5 (fun e w' he => ?_)
 rcases he with ⟨rfl, h1, h2⟩ | ⟨rfl, h1⟩
 ·exact ⟨_, rfl, true, H.f10 hz g0 (fun _ => ⟨C.keep w w' hL.1 h2, h1⟩) (fun h => by cases h)⟩
 ·exact ⟨_, rfl, false, H.f10 hz g0 (fun h => by cases h) (fun _ => h1)⟩
end
structure V11Ops (ops : Array Oper) : Prop where
 sz : ops.size = 13
 eg : edgesB ops = true
 o0 : OpIs ops 0 78 none (.load 3 (.tmp 1)) []
 o1 : OpIs ops 1 79 none (.load 93 (.tmp 2)) []
 o2 : OpIs ops 2 80 none (.nilCheck (.tmp 79)) [1]
 o3 : OpIs ops 3 81 none (.fieldAddr 96 (.tmp 80) 0) [2]
 o4 : OpIs ops 4 82 none (.fieldAddr 56 (.tmp 81) 1) [3]
 o5 : OpIs ops 5 83 none (.load 3 (.tmp 82)) [4]
 o6 : OpIs ops 6 84 none (.binOp .lss 3 (.tmp 78) (.tmp 83) 3) [0, 5]
 o7 : OpIs ops 7 85 none (.move (.tmp 84)) [6]
 o8 : OpIs ops 8 86 (some (7, true)) (.move (.tmp 0)) [7]
 o9 : OpIs ops 9 87 (some (7, true)) (.load 3 (.tmp 1)) [7]
 o10 : OpIs ops 10 88 (some (7, true)) (.call { callee := .value (.tmp 86), args := #[.tmp 87], argTypes := #[3] }) [8, 9, 7]
 o11 : OpIs ops 11 89 (some (7, true)) (.unOp .not 4 (.tmp 88)) [10, 7]
 o12 : OpIs ops 12 90 none (.pick (.tmp 85) (.tmp 89) (.const (.bool false))) [7, 11]
theorem hzV {ops : Array Oper} (hO : V11Ops ops) {d : Nat → Bool} (hcl : Closed ops d) (hdi : d 10 = false) : ∀ j, 10 ≤ j → j < 13 → d j = false := by
 intro j h1 h2
 rcases (show j = 10 ∨ j = 11 ∨ j = 12 by omega) with rfl | rfl | rfl
 ·exact hdi
 ·exact false_of (fun h => (hO.o11.deps hcl h 10 (by decide))) hdi
 ·exact false_of (fun h => (hO.o11.deps hcl (hO.o12.deps hcl h 11 (by decide)) 10 (by decide))) hdi
theorem v11_region {C : VC} {N id : Nat} {ops : Array Oper} {Q : Exit → Act → World → Prop} {a0 : Act} {w : World} (hm : (Tryz.prog).follows .mixedOrders = true) (hO : V11Ops ops) (hsl : ∀ k ∈ VIS, k < a0.tmps.size) (HA : ActV C a0) (hN : C.Need w.drew) (hJ : C.J C.ys w.drew)
 (hY : C.B = true → YieldsV C N C.ys C.r)
 (hQ : ∀ (vs : Nat → Value) w', (∀ k, k ∉ VIS → vs k = vals a0 k) → ((vs 90 = .bool false ∧ C.Need w' ∧ C.J (C.ys ++ C.q) w') ∨ (vs 90 = .bool true ∧ ∃ zs, zs <+: C.ys ++ C.q ∧ C.Jx zs w')) → Q .normal (over a0 (VIS.map fun k => (k, vs k))) w') :
 (Code.region id ops true).wpIn Fence.wide N Tryz.prog Q a0 w := by
 refine regIn_invC hm VIS (VRI C) (edges_ok hO.eg) hsl ⟨true, ?_⟩ ?_ ?_
 ·refine ⟨fun _ => ⟨hN, ?_⟩, (fun h => by cases h), (fun _ => rfl), (fun _ => rfl), (fun h => by cases h), (fun h => by cases h), (fun h => by cases h), (fun h => by cases h), (fun h => by cases h), (fun h => by cases h), (fun h => by cases h), (fun h => by cases h), (fun h => by cases h), (fun h => by cases h), (fun h => by cases h), (fun h => by cases h), (fun h => by cases h)⟩
  rw [if_neg (by decide), List.append_nil]
  exact hJ
 ·rintro d a w' i o ho hdi hall hcl hag ⟨c, H⟩
  have hi : i < 13 := by
   rw [← hO.sz]
   exact (Array.getElem?_eq_some_iff.1 ho).1
  rcases (show i = 0 ∨ i = 1 ∨ i = 2 ∨ i = 3 ∨ i = 4 ∨ i = 5 ∨ i = 6 ∨ i = 7 ∨ i = 8 ∨ i = 9 ∨ i = 10 ∨ i = 11 ∨ i = 12 by omega) with rfl | rfl | rfl | rfl | rfl | rfl | rfl | rfl | rfl | rfl | rfl | rfl | rfl
  ·obtain ⟨h1, h2, h3, h4⟩ := hO.o0.all ho hall
   exact H.q0 hag HA (wanted_none h2) h1 (false_of (fun h => (hO.o6.deps hcl (hO.o7.deps hcl (hO.o10.deps hcl h 7 (by decide)) 6 (by decide)) 0 (by decide))) hdi) h3
  ·obtain ⟨h1, h2, h3, h4⟩ := hO.o1.all ho hall
   exact H.q1 hag HA (wanted_none h2) h1 (false_of (fun h => (hO.o2.deps hcl (hO.o3.deps hcl (hO.o4.deps hcl (hO.o5.deps hcl (hO.o6.deps hcl (hO.o7.deps hcl (hO.o10.deps hcl h 7 (by decide)) 6 (by decide)) 5 (by decide)) 4 (by decide)) 3 (by decide)) 2 (by decide)) 1 (by decide))) hdi) h3
  ·obtain ⟨h1, h2, h3, h4⟩ := hO.o2.all ho hall
   exact H.q2 hag HA (wanted_none h2) h1 (h4 1 (by decide)) h3
  ·obtain ⟨h1, h2, h3, h4⟩ := hO.o3.all ho hall
   exact H.q3 hag HA (wanted_none h2) h1 (h4 2 (by decide)) h3
  ·obtain ⟨h1, h2, h3, h4⟩ := hO.o4.all ho hall
   exact H.q4 hag HA (wanted_none h2) h1 (h4 3 (by decide)) h3
  ·obtain ⟨h1, h2, h3, h4⟩ := hO.o5.all ho hall
   exact H.q5 hag HA (wanted_none h2) h1 (h4 4 (by decide)) (false_of (fun h => (hO.o6.deps hcl (hO.o7.deps hcl (hO.o10.deps hcl h 7 (by decide)) 6 (by decide)) 5 (by decide))) hdi) h3
  ·obtain ⟨h1, h2, h3, h4⟩ := hO.o6.all ho hall
   exact H.q6 hag HA (wanted_none h2) h1 (h4 0 (by decide)) (h4 5 (by decide)) h3
  ·obtain ⟨h1, h2, h3, h4⟩ := hO.o7.all ho hall
   exact H.q7 hag HA (wanted_none h2) h1 (h4 6 (by decide)) h3
  ·obtain ⟨h1, h2, h3, h4⟩ := hO.o8.all ho hall
   have hwn := wanted_is h2 hO.o7 (by rw [hag.sz]; exact hsl 85 (by decide)) (H.v85 (h4 7 (by decide)))
   cases hb : C.B
   ·rw [hb] at hwn
    exact H.s8 hag hwn h1 hb
   ·rw [hb] at hwn
    exact H.q8 hag HA hwn h1 hb h3
  ·obtain ⟨h1, h2, h3, h4⟩ := hO.o9.all ho hall
   have hwn := wanted_is h2 hO.o7 (by rw [hag.sz]; exact hsl 85 (by decide)) (H.v85 (h4 7 (by decide)))
   cases hb : C.B
   ·rw [hb] at hwn
    exact H.s9 hag hwn h1 hb
   ·rw [hb] at hwn
    exact H.q9 hag HA hwn h1 hb (false_of (fun h => (hO.o10.deps hcl h 9 (by decide))) hdi) h3
  ·obtain ⟨h1, h2, h3, h4⟩ := hO.o10.all ho hall
   have hwn := wanted_is h2 hO.o7 (by rw [hag.sz]; exact hsl 85 (by decide)) (H.v85 (h4 7 (by decide)))
   cases hb : C.B
   ·rw [hb] at hwn
    exact H.s10 hag hwn h1 hb
   ·rw [hb] at hwn
    exact H.q10 hag HA hwn h1 (h4 8 (by decide)) (h4 9 (by decide)) hb (hzV hO hcl hdi) (hY hb) h3
  ·obtain ⟨h1, h2, h3, h4⟩ := hO.o11.all ho hall
   have hwn := wanted_is h2 hO.o7 (by rw [hag.sz]; exact hsl 85 (by decide)) (H.v85 (h4 7 (by decide)))
   cases hb : C.B
   ·rw [hb] at hwn
    exact H.s11 hag hwn h1 hb
   ·rw [hb] at hwn
    exact H.q11 hag HA hwn h1 (h4 10 (by decide)) hb h3
  ·obtain ⟨h1, h2, h3, h4⟩ := hO.o12.all ho hall
   exact H.q12 hag HA (wanted_none h2) h1 (h4 7 (by decide)) (h4 11 (by decide)) h3
 ·rintro d vs w' hall hold ⟨c, H⟩
  have hd : ∀ k, k < 13 → d k = true := fun k hk => hall k (by rw [hO.sz]; exact hk)
  have hv := H.v90 (hd 12 (by omega))
  refine hQ vs w' hold ?_
  cases c
  ·refine .inr ⟨hv, C.ys ++ [(C.r : Int)], ?_, H.x1 rfl⟩
   have hb : C.B = true := by
    cases hb : C.B
    ·have := H.b1 hb
     cases this
    ·rfl
   have hq : C.q = [(C.r : Int)] := if_pos hb
   rw [hq]
   exact List.prefix_refl _
  ·have hl := H.lv rfl
   rw [hd 10 (by omega), if_pos rfl] at hl
   exact .inl ⟨hv, hl⟩
end Go.Proofs.YtdanebboiekieaaGreatDoor
