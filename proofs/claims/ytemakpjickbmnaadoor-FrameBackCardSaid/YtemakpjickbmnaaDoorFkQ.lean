/- FrameBack's image, plainly. -/
import Derived.Test.YtemakpjickbmnaaDoorFkP
import Derived.Test.YtemakpjickbmnaaDoorPeepW
import Derived.Test.YtemakpjickbmnaaDoorLawI
import Derived.Test.YtemakpjickbmnaaDoorMachD
namespace Go.Proofs.YtemakpjickbmnaaDoor
open Go.RowKit
set_option linter.unusedSimpArgs false
set_option linter.unusedVariables false

def fB : ByteArray := ⟨#[102]⟩
def backI (reg n : Int) (s : Int) (xs : List Int) : Image := ⟨[], [⟨mainB, codeB (mainOf reg n)⟩, ⟨fB, codeB (callee s xs)⟩]⟩
theorem fine_set {d n : Int} {len : Int} (h0 : 0 ≤ d) (h1 : d ≤ 15) : macF ⟨1, d, 0, 0, n⟩ len = 0 := by
  have e : shapeOf 1 = ⟨true, false, false, 1⟩ := by rfl
  unfold macF
  simp only [e, known, fieldF, numberF]
  simp
  omega
theorem fine_put {a n : Int} {len : Int} (h0 : 0 ≤ a) (h1 : a ≤ 15) (h2 : 0 ≤ n) (h3 : n < 120) : macF ⟨36, 0, a, 0, n⟩ len = 0 := by
  have e : shapeOf 36 = ⟨false, true, false, 3⟩ := by rfl
  unfold macF
  simp only [e, known, fieldF, numberF]
  simp
  omega
theorem fine_get {d n : Int} {len : Int} (h0 : 0 ≤ d) (h1 : d ≤ 15) (h2 : 0 ≤ n) (h3 : n < 120) : macF ⟨35, d, 0, 0, n⟩ len = 0 := by
  have e : shapeOf 35 = ⟨true, false, false, 3⟩ := by rfl
  unfold macF
  simp only [e, known, fieldF, numberF]
  simp
  omega
theorem fine_call {n : Int} {len : Int} (h2 : 0 ≤ n) : macF ⟨44, 0, 0, 0, n⟩ len = 0 := by
  have e : shapeOf 44 = ⟨false, false, false, 4⟩ := by rfl
  unfold macF
  simp only [e, known, fieldF, numberF]
  simp
  omega
theorem fine_ret {len : Int} : macF ⟨45, 0, 0, 0, 0⟩ len = 0 := by
  have e : shapeOf 45 = ⟨false, false, false, 0⟩ := by rfl
  unfold macF
  simp only [e, known, fieldF, numberF]
  simp
theorem main_ok {reg n : Int} (h6 : 6 ≤ reg) (h13 : reg ≤ 13) : MacsOk (mainOf reg n) where
  some_ := by simp [mainOf]
  few := by simp [mainOf]
  fine := fun m hm => by
    simp only [mainOf, List.mem_cons, List.not_mem_nil, or_false] at hm
    rcases hm with rfl | rfl | rfl | rfl
    · exact fine_set (by omega) (by omega)
    · exact fine_call (by omega)
    · exact macF_move (by omega) (by omega) (by omega) (by omega)
    · exact fine_ret
  last := .inr rfl
theorem main_n {reg n : Int} (hn : N64 n) : ∀ m ∈ mainOf reg n, N64 m.n := fun m hm => by
  simp only [mainOf, List.mem_cons, List.not_mem_nil, or_false] at hm
  rcases hm with rfl | rfl | rfl | rfl
  · exact hn
  · exact n64_1
  · exact n64_0
  · exact n64_0
theorem callee_mem {s : Int} {xs : List Int} {m : Mac} (hm : m ∈ callee s xs) : (∃ j x, j < xs.length ∧ x ∈ xs ∧ m = ⟨36, 0, x, 0, s + (j : Int)⟩) ∨ (∃ k : Nat, k < 14 ∧ m = ⟨1, (k : Int), 0, 0, 1000 + (k : Int)⟩) ∨ (∃ j x, j < xs.length ∧ x ∈ xs ∧ m = ⟨35, x, 0, 0, s + (j : Int)⟩) ∨ m = ⟨45, 0, 0, 0, 0⟩ := by
  unfold callee at hm
  rcases List.mem_append.1 hm with hm | hm
  · rcases List.mem_append.1 hm with hm | hm
    · obtain ⟨j, hj, e⟩ := List.mem_iff_getElem.1 hm
      rw [entered_length] at hj
      have e2 := entered_at (s := s) hj
      rw [List.getElem?_eq_getElem (by rw [entered_length]; exact hj)] at e2
      refine .inl ⟨j, xs.getD j 0, hj, ?_, e.symm.trans (Option.some.inj e2)⟩
      rw [List.getD_eq_getElem?_getD, List.getElem?_eq_getElem hj]
      exact List.getElem_mem hj
    · obtain ⟨k, hk, e⟩ := List.mem_map.1 hm
      exact .inr (.inl ⟨k, List.mem_range.1 hk, e.symm⟩)
  · rcases List.mem_append.1 hm with hm | hm
    · obtain ⟨j, hj, e⟩ := List.mem_iff_getElem.1 hm
      rw [left_length] at hj
      have e2 := left_at (s := s) hj
      rw [List.getElem?_eq_getElem (by rw [left_length]; exact hj)] at e2
      refine .inr (.inr (.inl ⟨j, xs.getD j 0, hj, ?_, e.symm.trans (Option.some.inj e2)⟩))
      rw [List.getD_eq_getElem?_getD, List.getElem?_eq_getElem hj]
      exact List.getElem_mem hj
    · exact .inr (.inr (.inr (List.mem_singleton.1 hm)))
theorem callee_ok {s : Int} {xs : List Int} (h0 : 0 ≤ s) (h1 : s ≤ 100) (h8 : xs.length ≤ 8) (hx : ∀ x ∈ xs, 6 ≤ x ∧ x ≤ 13) : MacsOk (callee s xs) where
  some_ := by rw [callee_len]; omega
  few := by rw [callee_len]; omega
  fine := fun m hm => by
    rcases callee_mem hm with ⟨j, x, hj, hxm, rfl⟩ | ⟨k, hk, rfl⟩ | ⟨j, x, hj, hxm, rfl⟩ | rfl
    · have := hx x hxm
      exact fine_put (by omega) (by omega) (by omega) (by omega)
    · exact fine_set (by omega) (by omega)
    · have := hx x hxm
      exact fine_get (by omega) (by omega) (by omega) (by omega)
    · exact fine_ret
  last := .inr (by
    show (atL (callee s xs) ((callee s xs).length - 1)).op = 45
    rw [callee_len, show xs.length + 14 + (xs.length + 1) - 1 = xs.length + 14 + xs.length from by omega]
    show ((callee s xs).getD _ macZ0).op = 45
    rw [callee_ret])
theorem callee_n {s : Int} {xs : List Int} (h0 : 0 ≤ s) (h1 : s ≤ 100) (h8 : xs.length ≤ 8) : ∀ m ∈ callee s xs, N64 m.n := fun m hm => by
  rcases callee_mem hm with ⟨j, x, hj, hxm, rfl⟩ | ⟨k, hk, rfl⟩ | ⟨j, x, hj, hxm, rfl⟩ | rfl
  · exact ⟨by show -9223372036854775808 ≤ s + (j : Int); omega, by show s + (j : Int) ≤ 9223372036854775807; omega⟩
  · exact ⟨by show -9223372036854775808 ≤ 1000 + (k : Int); omega, by show 1000 + (k : Int) ≤ 9223372036854775807; omega⟩
  · exact ⟨by show -9223372036854775808 ≤ s + (j : Int); omega, by show s + (j : Int) ≤ 9223372036854775807; omega⟩
  · exact ⟨by decide, by decide⟩
theorem macs_read {l : List Mac} (h : MacsOk l) (hn : ∀ m ∈ l, N64 m.n) : readL (codeB l) = some l := by
  have h1 := codeB_len_ l
  have h2 := h.few
  exact readL_of (fun m hm => true_of (h.fine m hm) (hn m hm)) (macsOk_iff.2 h) (by omega)
theorem macs_good {l : List Mac} (h : MacsOk l) (hn : ∀ m ∈ l, N64 m.n) : ∀ m ∈ l, GoodMac m := fun m hm => (true_of (h.fine m hm) (hn m hm)).toGoodMac
section
variable {reg n s : Int} {xs : List Int} (h6 : 6 ≤ reg) (h13 : reg ≤ 13) (hn : N64 n) (h0 : 0 ≤ s) (h1 : s ≤ 100) (h8 : xs.length ≤ 8) (hx : ∀ x ∈ xs, 6 ≤ x ∧ x ≤ 13)
include h6 h13 hn h0 h1 h8 hx
theorem back_img : ImgOk (backI reg n s xs) where
  glob := by show globFault [] = (0, 0); rfl
  some_ := by simp [backI]
  few := by simp [backI]
  each := fun k r hr => by
    match k, hr with
    | 0, hr =>
      have e : r = ⟨mainB, codeB (mainOf reg n)⟩ := by simpa [backI] using hr.symm
      subst e
      refine ⟨by show goodName mainB = true; decide +kernel, fun _ => rfl, rfl, fun j x hj => by omega, _, macs_read (main_ok h6 h13) (main_n hn), ?_⟩
      intro x hm ho
      simp only [mainOf, List.mem_cons, List.not_mem_nil, or_false] at hm
      rcases hm with rfl | rfl | rfl | rfl
      · simp at ho
      · show (1 : Int) < 2; decide
      · simp at ho
      · simp at ho
    | 1, hr =>
      have e : r = ⟨fB, codeB (callee s xs)⟩ := by simpa [backI] using hr.symm
      subst e
      refine ⟨by show goodName fB = true; decide +kernel, fun e => by omega, rfl, fun j x hj hx => ?_, _, macs_read (callee_ok h0 h1 h8 hx) (callee_n h0 h1 h8), ?_⟩
      · obtain rfl : j = 0 := by omega
        have e : x = ⟨mainB, codeB (mainOf reg n)⟩ := by simpa [backI] using hx.symm
        rw [e]
        show mainB ≠ fB
        decide +kernel
      · intro x hm ho
        rcases callee_mem hm with ⟨j, x, hj, hxm, rfl⟩ | ⟨k, hk, rfl⟩ | ⟨j, x, hj, hxm, rfl⟩ | rfl <;> simp at ho
    | k + 2, hr => simp [backI] at hr
theorem back_codes : codesI (backI reg n s xs) = [mainOf reg n, callee s xs] := by
  show [(readL (codeB (mainOf reg n))).getD [], (readL (codeB (callee s xs))).getD []] = _
  rw [macs_read (main_ok h6 h13) (main_n hn), macs_read (callee_ok h0 h1 h8 hx) (callee_n h0 h1 h8)]
  rfl
end
theorem back_run {s : Nat} (hs : s ≤ 100) {xs : List Int} (h8 : xs.length ≤ 8) (hx : ∀ x ∈ xs, 6 ≤ x ∧ x ≤ 13) (hnd : xs.Nodup) {reg : Nat} (hr6 : 6 ≤ reg) (hr13 : reg ≤ 13) {n : Int} (hn : N64 n) :
    runO (backI (reg : Int) n (s : Int) xs) [] 100 = ⟨0, if (reg : Int) ∈ xs then n else 1000 + (reg : Int), [], 2 * xs.length + 19⟩ := by
  unfold runO
  rw [back_codes (by omega) (by omega) hn (by omega) (by omega) h8 hx]
  exact frame_run hs h8 hx hnd hr6 hr13 n
end Go.Proofs.YtemakpjickbmnaaDoor
