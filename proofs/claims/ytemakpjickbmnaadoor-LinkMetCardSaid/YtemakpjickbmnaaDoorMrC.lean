/- LinkMet's region MrA: what holds on its way. Printed by genreg.py. LinkMet's region MrB: what holds on its way. Printed by genreg.py. -/
import Derived.Test.YtemakpjickbmnaaDoorBase
import Derived.Test.YtemakpjickbmnaaDoorRows
import Derived.IntWalk
import Derived.Outline
import Derived.Test.YtemakpjickbmnaaDoorInvR
import Derived.Test.YtemakpjickbmnaaDoorMtA
import Derived.Test.YtemakpjickbmnaaDoorKm1
/- LinkMet's region MrA: what holds on its way. Printed by genreg.py. -/
namespace Go.Proofs.YtemakpjickbmnaaDoor
open Go.RowKit
set_option linter.unusedSimpArgs false
set_option linter.unusedVariables false

structure RAC where
  w0 : World
  img : Value
  vi : Value
  inp : List Int
  n : Value
  O : Out
def RAS : List Nat := [16, 17, 87, 88, 89, 90, 91, 92, 93, 94]
structure RA (C : RAC) (L : Nat → Bool) (p q : Nat) (vo : Value) (d : Nat → Bool) (val : Nat → Value) (w : World) : Prop where
  s_be : Below C.w0.heap.size C.w0 w
  s_lo : ∀ k, L k = true → C.w0.heap.size ≤ k ∧ k < w.heap.size
  s_o4 : d 4 = false → d 5 = false ∧ d 6 = false ∧ d 7 = false ∧ d 10 = false
  s_img : d 0 = true → val 88 = C.img
  s_inp : d 1 = true → val 89 = C.vi
  s_c1 : d 2 = true → rpInt.SLL w L C.inp (val 90)
  s_n : d 3 = true → val 91 = C.n
  s_c2 : d 4 = true → val 92 = .tuple #[.agg #[.int .i64 C.O.st, .int .i64 C.O.val, vo, .int .i64 (C.O.steps : Int)], .agg #[.int .i64 0, .int .i64 0]] ∧ rpInt.SLL w L C.O.out vo
  s_tup : d 5 = true → val 87 = .tuple #[.agg #[.int .i64 C.O.st, .int .i64 C.O.val, vo, .int .i64 (C.O.steps : Int)], .agg #[.int .i64 0, .int .i64 0]]
  s_x1 : d 6 = true → val 93 = .agg #[.int .i64 C.O.st, .int .i64 C.O.val, vo, .int .i64 (C.O.steps : Int)]
  s_x2 : d 7 = true → val 94 = .agg #[.int .i64 0, .int .i64 0]
  s_p : d 8 = true → val 16 = .pointer (some ⟨p, 0, none⟩) ∧ L p = true ∧ ∃ x y z u, w.heap[p]? = some (.cells #[x, y, z, u] 44 (0, 0))
  s_q : d 9 = true → val 17 = .pointer (some ⟨q, 0, none⟩) ∧ L q = true ∧ ∃ x y, w.heap[q]? = some (.cells #[x, y] 25 (0, 0))
  s_sp : d 10 = true → d 8 = true ∧ w.heap[p]? = some (.cells #[.int .i64 C.O.st, .int .i64 C.O.val, vo, .int .i64 (C.O.steps : Int)] 44 (0, 0))
  s_sq : d 11 = true → d 9 = true ∧ w.heap[q]? = some (.cells #[.int .i64 0, .int .i64 0] 25 (0, 0))
section
variable {C : RAC} {L : Nat → Bool} {p q : Nat} {vo : Value} {d : Nat → Bool} {val : Nat → Value} {w : World}
theorem RA.up (H : RA C L p q vo d val w) {w' : World} {L' : Nat → Bool} (hb : Below w.heap.size w w') (hL : ∀ k, k < w.heap.size → L' k = L k) (hl : ∀ k, L' k = true → C.w0.heap.size ≤ k ∧ k < w'.heap.size) : RA C L' p q vo d val w' where
  s_be := H.s_be.trans (hb.mono H.s_be.size)
  s_lo := hl
  s_o4 := H.s_o4
  s_img := H.s_img
  s_inp := H.s_inp
  s_c1 := fun h => (H.s_c1 h).up hb (fun k hk e => by rw [hL k hk]; exact e)
  s_n := H.s_n
  s_c2 := fun h => ⟨(H.s_c2 h).1, (H.s_c2 h).2.up hb (fun k hk e => by rw [hL k hk]; exact e)⟩
  s_tup := H.s_tup
  s_x1 := H.s_x1
  s_x2 := H.s_x2
  s_p := fun h => by
    obtain ⟨h1, h2, x, y, z, u, h3⟩ := H.s_p h
    exact ⟨h1, by rw [hL _ (blk_lt h3)]; exact h2, x, y, z, u, (hb.block _ (blk_lt h3)).trans h3⟩
  s_q := fun h => by
    obtain ⟨h1, h2, x, y, h3⟩ := H.s_q h
    exact ⟨h1, by rw [hL _ (blk_lt h3)]; exact h2, x, y, (hb.block _ (blk_lt h3)).trans h3⟩
  s_sp := fun h => ⟨(H.s_sp h).1, (hb.block _ (blk_lt (H.s_sp h).2)).trans (H.s_sp h).2⟩
  s_sq := fun h => ⟨(H.s_sq h).1, (hb.block _ (blk_lt (H.s_sq h).2)).trans (H.s_sq h).2⟩
theorem RA.fImg (H : RA C L p q vo d val w)  : RA C L p q vo (don d 0) (setV val 88 C.img) w := by
  refine ⟨?_, ?_, ?_, ?_, ?_, ?_, ?_, ?_, ?_, ?_, ?_, ?_, ?_, ?_, ?_⟩
  · exact H.s_be
  · exact H.s_lo
  · have := H.s_o4; first | (simpa [don, setV] using this) | (simp [don]; done) | (simp [don, *]; done)
  · intro _; simp [setV]
  · have := H.s_inp; first | (simpa [don, setV] using this) | (simp [don]; done) | (simp [don, *]; done)
  · have := H.s_c1; first | (simpa [don, setV] using this) | (simp [don]; done) | (simp [don, *]; done)
  · have := H.s_n; first | (simpa [don, setV] using this) | (simp [don]; done) | (simp [don, *]; done)
  · have := H.s_c2; first | (simpa [don, setV] using this) | (simp [don]; done) | (simp [don, *]; done)
  · have := H.s_tup; first | (simpa [don, setV] using this) | (simp [don]; done) | (simp [don, *]; done)
  · have := H.s_x1; first | (simpa [don, setV] using this) | (simp [don]; done) | (simp [don, *]; done)
  · have := H.s_x2; first | (simpa [don, setV] using this) | (simp [don]; done) | (simp [don, *]; done)
  · have := H.s_p; first | (simpa [don, setV] using this) | (simp [don]; done) | (simp [don, *]; done)
  · have := H.s_q; first | (simpa [don, setV] using this) | (simp [don]; done) | (simp [don, *]; done)
  · have := H.s_sp; first | (simpa [don, setV] using this) | (simp [don]; done) | (simp [don, *]; done)
  · have := H.s_sq; first | (simpa [don, setV] using this) | (simp [don]; done) | (simp [don, *]; done)
theorem RA.fInp (H : RA C L p q vo d val w)  : RA C L p q vo (don d 1) (setV val 89 C.vi) w := by
  refine ⟨?_, ?_, ?_, ?_, ?_, ?_, ?_, ?_, ?_, ?_, ?_, ?_, ?_, ?_, ?_⟩
  · exact H.s_be
  · exact H.s_lo
  · have := H.s_o4; first | (simpa [don, setV] using this) | (simp [don]; done) | (simp [don, *]; done)
  · have := H.s_img; first | (simpa [don, setV] using this) | (simp [don]; done) | (simp [don, *]; done)
  · intro _; simp [setV]
  · have := H.s_c1; first | (simpa [don, setV] using this) | (simp [don]; done) | (simp [don, *]; done)
  · have := H.s_n; first | (simpa [don, setV] using this) | (simp [don]; done) | (simp [don, *]; done)
  · have := H.s_c2; first | (simpa [don, setV] using this) | (simp [don]; done) | (simp [don, *]; done)
  · have := H.s_tup; first | (simpa [don, setV] using this) | (simp [don]; done) | (simp [don, *]; done)
  · have := H.s_x1; first | (simpa [don, setV] using this) | (simp [don]; done) | (simp [don, *]; done)
  · have := H.s_x2; first | (simpa [don, setV] using this) | (simp [don]; done) | (simp [don, *]; done)
  · have := H.s_p; first | (simpa [don, setV] using this) | (simp [don]; done) | (simp [don, *]; done)
  · have := H.s_q; first | (simpa [don, setV] using this) | (simp [don]; done) | (simp [don, *]; done)
  · have := H.s_sp; first | (simpa [don, setV] using this) | (simp [don]; done) | (simp [don, *]; done)
  · have := H.s_sq; first | (simpa [don, setV] using this) | (simp [don]; done) | (simp [don, *]; done)
theorem RA.fN (H : RA C L p q vo d val w)  : RA C L p q vo (don d 3) (setV val 91 C.n) w := by
  refine ⟨?_, ?_, ?_, ?_, ?_, ?_, ?_, ?_, ?_, ?_, ?_, ?_, ?_, ?_, ?_⟩
  · exact H.s_be
  · exact H.s_lo
  · have := H.s_o4; first | (simpa [don, setV] using this) | (simp [don]; done) | (simp [don, *]; done)
  · have := H.s_img; first | (simpa [don, setV] using this) | (simp [don]; done) | (simp [don, *]; done)
  · have := H.s_inp; first | (simpa [don, setV] using this) | (simp [don]; done) | (simp [don, *]; done)
  · have := H.s_c1; first | (simpa [don, setV] using this) | (simp [don]; done) | (simp [don, *]; done)
  · intro _; simp [setV]
  · have := H.s_c2; first | (simpa [don, setV] using this) | (simp [don]; done) | (simp [don, *]; done)
  · have := H.s_tup; first | (simpa [don, setV] using this) | (simp [don]; done) | (simp [don, *]; done)
  · have := H.s_x1; first | (simpa [don, setV] using this) | (simp [don]; done) | (simp [don, *]; done)
  · have := H.s_x2; first | (simpa [don, setV] using this) | (simp [don]; done) | (simp [don, *]; done)
  · have := H.s_p; first | (simpa [don, setV] using this) | (simp [don]; done) | (simp [don, *]; done)
  · have := H.s_q; first | (simpa [don, setV] using this) | (simp [don]; done) | (simp [don, *]; done)
  · have := H.s_sp; first | (simpa [don, setV] using this) | (simp [don]; done) | (simp [don, *]; done)
  · have := H.s_sq; first | (simpa [don, setV] using this) | (simp [don]; done) | (simp [don, *]; done)
theorem RA.fTup (H : RA C L p q vo d val w) (h : d 4 = true) : RA C L p q vo (don d 5) (setV val 87 (.tuple #[.agg #[.int .i64 C.O.st, .int .i64 C.O.val, vo, .int .i64 (C.O.steps : Int)], .agg #[.int .i64 0, .int .i64 0]])) w := by
  refine ⟨?_, ?_, ?_, ?_, ?_, ?_, ?_, ?_, ?_, ?_, ?_, ?_, ?_, ?_, ?_⟩
  · exact H.s_be
  · exact H.s_lo
  · intro h4; simp [don, h] at h4
  · have := H.s_img; first | (simpa [don, setV] using this) | (simp [don]; done) | (simp [don, *]; done)
  · have := H.s_inp; first | (simpa [don, setV] using this) | (simp [don]; done) | (simp [don, *]; done)
  · have := H.s_c1; first | (simpa [don, setV] using this) | (simp [don]; done) | (simp [don, *]; done)
  · have := H.s_n; first | (simpa [don, setV] using this) | (simp [don]; done) | (simp [don, *]; done)
  · have := H.s_c2; first | (simpa [don, setV] using this) | (simp [don]; done) | (simp [don, *]; done)
  · intro _; simp [setV]
  · have := H.s_x1; first | (simpa [don, setV] using this) | (simp [don]; done) | (simp [don, *]; done)
  · have := H.s_x2; first | (simpa [don, setV] using this) | (simp [don]; done) | (simp [don, *]; done)
  · have := H.s_p; first | (simpa [don, setV] using this) | (simp [don]; done) | (simp [don, *]; done)
  · have := H.s_q; first | (simpa [don, setV] using this) | (simp [don]; done) | (simp [don, *]; done)
  · have := H.s_sp; first | (simpa [don, setV] using this) | (simp [don]; done) | (simp [don, *]; done)
  · have := H.s_sq; first | (simpa [don, setV] using this) | (simp [don]; done) | (simp [don, *]; done)
theorem RA.fX1 (H : RA C L p q vo d val w) (h : d 4 = true) : RA C L p q vo (don d 6) (setV val 93 (.agg #[.int .i64 C.O.st, .int .i64 C.O.val, vo, .int .i64 (C.O.steps : Int)])) w := by
  refine ⟨?_, ?_, ?_, ?_, ?_, ?_, ?_, ?_, ?_, ?_, ?_, ?_, ?_, ?_, ?_⟩
  · exact H.s_be
  · exact H.s_lo
  · intro h4; simp [don, h] at h4
  · have := H.s_img; first | (simpa [don, setV] using this) | (simp [don]; done) | (simp [don, *]; done)
  · have := H.s_inp; first | (simpa [don, setV] using this) | (simp [don]; done) | (simp [don, *]; done)
  · have := H.s_c1; first | (simpa [don, setV] using this) | (simp [don]; done) | (simp [don, *]; done)
  · have := H.s_n; first | (simpa [don, setV] using this) | (simp [don]; done) | (simp [don, *]; done)
  · have := H.s_c2; first | (simpa [don, setV] using this) | (simp [don]; done) | (simp [don, *]; done)
  · have := H.s_tup; first | (simpa [don, setV] using this) | (simp [don]; done) | (simp [don, *]; done)
  · intro _; simp [setV]
  · have := H.s_x2; first | (simpa [don, setV] using this) | (simp [don]; done) | (simp [don, *]; done)
  · have := H.s_p; first | (simpa [don, setV] using this) | (simp [don]; done) | (simp [don, *]; done)
  · have := H.s_q; first | (simpa [don, setV] using this) | (simp [don]; done) | (simp [don, *]; done)
  · have := H.s_sp; first | (simpa [don, setV] using this) | (simp [don]; done) | (simp [don, *]; done)
  · have := H.s_sq; first | (simpa [don, setV] using this) | (simp [don]; done) | (simp [don, *]; done)
theorem RA.fX2 (H : RA C L p q vo d val w) (h : d 4 = true) : RA C L p q vo (don d 7) (setV val 94 (.agg #[.int .i64 0, .int .i64 0])) w := by
  refine ⟨?_, ?_, ?_, ?_, ?_, ?_, ?_, ?_, ?_, ?_, ?_, ?_, ?_, ?_, ?_⟩
  · exact H.s_be
  · exact H.s_lo
  · intro h4; simp [don, h] at h4
  · have := H.s_img; first | (simpa [don, setV] using this) | (simp [don]; done) | (simp [don, *]; done)
  · have := H.s_inp; first | (simpa [don, setV] using this) | (simp [don]; done) | (simp [don, *]; done)
  · have := H.s_c1; first | (simpa [don, setV] using this) | (simp [don]; done) | (simp [don, *]; done)
  · have := H.s_n; first | (simpa [don, setV] using this) | (simp [don]; done) | (simp [don, *]; done)
  · have := H.s_c2; first | (simpa [don, setV] using this) | (simp [don]; done) | (simp [don, *]; done)
  · have := H.s_tup; first | (simpa [don, setV] using this) | (simp [don]; done) | (simp [don, *]; done)
  · have := H.s_x1; first | (simpa [don, setV] using this) | (simp [don]; done) | (simp [don, *]; done)
  · intro _; simp [setV]
  · have := H.s_p; first | (simpa [don, setV] using this) | (simp [don]; done) | (simp [don, *]; done)
  · have := H.s_q; first | (simpa [don, setV] using this) | (simp [don]; done) | (simp [don, *]; done)
  · have := H.s_sp; first | (simpa [don, setV] using this) | (simp [don]; done) | (simp [don, *]; done)
  · have := H.s_sq; first | (simpa [don, setV] using this) | (simp [don]; done) | (simp [don, *]; done)
theorem RA.fC1 (H : RA C L p q vo d val w) {w' : World} {v : Value} (hb : Below w.heap.size w w') (hv : rpInt.SLF w' w.heap.size w'.heap.size C.inp v) : RA C L p q vo (don d 2) (setV val 90 v) w' := by
  have H2 := H.up (L' := L) hb (fun _ _ => rfl) (fun k hk => ⟨(H.s_lo k hk).1, Nat.lt_of_lt_of_le (H.s_lo k hk).2 hb.size⟩)
  refine ⟨?_, ?_, ?_, ?_, ?_, ?_, ?_, ?_, ?_, ?_, ?_, ?_, ?_, ?_, ?_⟩
  · exact H2.s_be
  · exact H2.s_lo
  · have := H2.s_o4; first | (simpa [don, setV] using this) | (simp [don]; done) | (simp [don, *]; done)
  · have := H2.s_img; first | (simpa [don, setV] using this) | (simp [don]; done) | (simp [don, *]; done)
  · have := H2.s_inp; first | (simpa [don, setV] using this) | (simp [don]; done) | (simp [don, *]; done)
  · intro _; simp only [setV, if_true]; exact Rp.SLL.of_SLF hv (fun k hk => (H.s_lo k hk).2)
  · have := H2.s_n; first | (simpa [don, setV] using this) | (simp [don]; done) | (simp [don, *]; done)
  · have := H2.s_c2; first | (simpa [don, setV] using this) | (simp [don]; done) | (simp [don, *]; done)
  · have := H2.s_tup; first | (simpa [don, setV] using this) | (simp [don]; done) | (simp [don, *]; done)
  · have := H2.s_x1; first | (simpa [don, setV] using this) | (simp [don]; done) | (simp [don, *]; done)
  · have := H2.s_x2; first | (simpa [don, setV] using this) | (simp [don]; done) | (simp [don, *]; done)
  · have := H2.s_p; first | (simpa [don, setV] using this) | (simp [don]; done) | (simp [don, *]; done)
  · have := H2.s_q; first | (simpa [don, setV] using this) | (simp [don]; done) | (simp [don, *]; done)
  · have := H2.s_sp; first | (simpa [don, setV] using this) | (simp [don]; done) | (simp [don, *]; done)
  · have := H2.s_sq; first | (simpa [don, setV] using this) | (simp [don]; done) | (simp [don, *]; done)
theorem RA.fC2 (H : RA C L p q vo d val w) {w' : World} {u1 : Value} (hd : d 4 = false) (hb : Below w.heap.size w w') (hv1 : rpInt.SLF w' w.heap.size w'.heap.size C.O.out u1) : RA C L p q u1 (don d 4) (setV val 92 (.tuple #[.agg #[.int .i64 C.O.st, .int .i64 C.O.val, u1, .int .i64 (C.O.steps : Int)], .agg #[.int .i64 0, .int .i64 0]])) w' := by
  have H2 := H.up (L' := L) hb (fun _ _ => rfl) (fun k hk => ⟨(H.s_lo k hk).1, Nat.lt_of_lt_of_le (H.s_lo k hk).2 hb.size⟩)
  obtain ⟨z_tup, z_x1, z_x2, z_sp⟩ := H.s_o4 hd
  refine ⟨?_, ?_, ?_, ?_, ?_, ?_, ?_, ?_, ?_, ?_, ?_, ?_, ?_, ?_, ?_⟩
  · exact H2.s_be
  · exact H2.s_lo
  · intro h4; simp [don] at h4
  · have := H2.s_img; first | (simpa [don, setV] using this) | (simp [don]; done) | (simp [don, *]; done)
  · have := H2.s_inp; first | (simpa [don, setV] using this) | (simp [don]; done) | (simp [don, *]; done)
  · have := H2.s_c1; first | (simpa [don, setV] using this) | (simp [don]; done) | (simp [don, *]; done)
  · have := H2.s_n; first | (simpa [don, setV] using this) | (simp [don]; done) | (simp [don, *]; done)
  · intro _; simp only [setV, if_true]; exact ⟨trivial, Rp.SLL.of_SLF hv1 (fun k hk => (H.s_lo k hk).2)⟩
  · intro h5; have h6 : d 5 = true := by simpa [don] using h5
    rw [z_tup] at h6; cases h6
  · intro h5; have h6 : d 6 = true := by simpa [don] using h5
    rw [z_x1] at h6; cases h6
  · intro h5; have h6 : d 7 = true := by simpa [don] using h5
    rw [z_x2] at h6; cases h6
  · have := H2.s_p; first | (simpa [don, setV] using this) | (simp [don]; done) | (simp [don, *]; done)
  · have := H2.s_q; first | (simpa [don, setV] using this) | (simp [don]; done) | (simp [don, *]; done)
  · intro h5; have h6 : d 10 = true := by simpa [don] using h5
    rw [z_sp] at h6; cases h6
  · have := H2.s_sq; first | (simpa [don, setV] using this) | (simp [don]; done) | (simp [don, *]; done)
theorem RA.fP (H : RA C L p q vo d val w) (hd : d 8 = false) : RA C (fun k => L k || k == w.heap.size) w.heap.size q vo (don d 8) (setV val 16 (.pointer (some ⟨w.heap.size, 0, none⟩))) (w.alloc (.cells #[.int .i64 0, .int .i64 0, .slice none 0 0, .int .i64 0] 44)) := by
  have hz := H.s_be.size
  have H2 := H.up (w' := w.alloc (.cells #[.int .i64 0, .int .i64 0, .slice none 0 0, .int .i64 0] 44)) (L' := fun k => L k || k == w.heap.size) (by exact bl0) (fun k hk => by
    have h0 : (k == w.heap.size) = false := beq_eq_false_iff_ne.2 (by omega)
    simp only [h0, Bool.or_false]) (fun k hk => by
    rw [Bool.or_eq_true] at hk
    rcases hk with hk | hk
    · have := H.s_lo k hk; simp; omega
    · have : k = w.heap.size := by simpa using hk
      subst this; simp; omega)
  refine ⟨?_, ?_, ?_, ?_, ?_, ?_, ?_, ?_, ?_, ?_, ?_, ?_, ?_, ?_, ?_⟩
  · exact H2.s_be
  · exact H2.s_lo
  · have := H2.s_o4; first | (simpa [don, setV] using this) | (simp [don]; done) | (simp [don, *]; done)
  · have := H2.s_img; first | (simpa [don, setV] using this) | (simp [don]; done) | (simp [don, *]; done)
  · have := H2.s_inp; first | (simpa [don, setV] using this) | (simp [don]; done) | (simp [don, *]; done)
  · have := H2.s_c1; first | (simpa [don, setV] using this) | (simp [don]; done) | (simp [don, *]; done)
  · have := H2.s_n; first | (simpa [don, setV] using this) | (simp [don]; done) | (simp [don, *]; done)
  · have := H2.s_c2; first | (simpa [don, setV] using this) | (simp [don]; done) | (simp [don, *]; done)
  · have := H2.s_tup; first | (simpa [don, setV] using this) | (simp [don]; done) | (simp [don, *]; done)
  · have := H2.s_x1; first | (simpa [don, setV] using this) | (simp [don]; done) | (simp [don, *]; done)
  · have := H2.s_x2; first | (simpa [don, setV] using this) | (simp [don]; done) | (simp [don, *]; done)
  · intro _; exact ⟨by simp [setV], by simp, _, _, _, _, heap_alloc_new _ _⟩
  · have := H2.s_q; first | (simpa [don, setV] using this) | (simp [don]; done) | (simp [don, *]; done)
  · intro h5; have h6 : d 10 = true := by simpa [don] using h5
    have h7 := (H.s_sp h6).1
    rw [hd] at h7; cases h7
  · have := H2.s_sq; first | (simpa [don, setV] using this) | (simp [don]; done) | (simp [don, *]; done)
theorem RA.fQ (H : RA C L p q vo d val w) (hd : d 9 = false) : RA C (fun k => L k || k == w.heap.size) p w.heap.size vo (don d 9) (setV val 17 (.pointer (some ⟨w.heap.size, 0, none⟩))) (w.alloc (.cells #[.int .i64 0, .int .i64 0] 25)) := by
  have hz := H.s_be.size
  have H2 := H.up (w' := w.alloc (.cells #[.int .i64 0, .int .i64 0] 25)) (L' := fun k => L k || k == w.heap.size) (by exact bl0) (fun k hk => by
    have h0 : (k == w.heap.size) = false := beq_eq_false_iff_ne.2 (by omega)
    simp only [h0, Bool.or_false]) (fun k hk => by
    rw [Bool.or_eq_true] at hk
    rcases hk with hk | hk
    · have := H.s_lo k hk; simp; omega
    · have : k = w.heap.size := by simpa using hk
      subst this; simp; omega)
  refine ⟨?_, ?_, ?_, ?_, ?_, ?_, ?_, ?_, ?_, ?_, ?_, ?_, ?_, ?_, ?_⟩
  · exact H2.s_be
  · exact H2.s_lo
  · have := H2.s_o4; first | (simpa [don, setV] using this) | (simp [don]; done) | (simp [don, *]; done)
  · have := H2.s_img; first | (simpa [don, setV] using this) | (simp [don]; done) | (simp [don, *]; done)
  · have := H2.s_inp; first | (simpa [don, setV] using this) | (simp [don]; done) | (simp [don, *]; done)
  · have := H2.s_c1; first | (simpa [don, setV] using this) | (simp [don]; done) | (simp [don, *]; done)
  · have := H2.s_n; first | (simpa [don, setV] using this) | (simp [don]; done) | (simp [don, *]; done)
  · have := H2.s_c2; first | (simpa [don, setV] using this) | (simp [don]; done) | (simp [don, *]; done)
  · have := H2.s_tup; first | (simpa [don, setV] using this) | (simp [don]; done) | (simp [don, *]; done)
  · have := H2.s_x1; first | (simpa [don, setV] using this) | (simp [don]; done) | (simp [don, *]; done)
  · have := H2.s_x2; first | (simpa [don, setV] using this) | (simp [don]; done) | (simp [don, *]; done)
  · have := H2.s_p; first | (simpa [don, setV] using this) | (simp [don]; done) | (simp [don, *]; done)
  · intro _; exact ⟨by simp [setV], by simp, _, _, heap_alloc_new _ _⟩
  · have := H2.s_sp; first | (simpa [don, setV] using this) | (simp [don]; done) | (simp [don, *]; done)
  · intro h5; have h6 : d 11 = true := by simpa [don] using h5
    have h7 := (H.s_sq h6).1
    rw [hd] at h7; cases h7
theorem RA.fSP (H : RA C L p q vo d val w) (h1 : d 8 = true) (h2 : d 4 = true) : RA C L p q vo (don d 10) val ((((w.setCell ⟨p, 0, none⟩ (.int .i64 C.O.st)).setCell ⟨p, 1, none⟩ (.int .i64 C.O.val)).setCell ⟨p, 2, none⟩ vo).setCell ⟨p, 3, none⟩ (.int .i64 (C.O.steps : Int))) := by
  obtain ⟨e1, e2, x, y, z, u, e3⟩ := H.s_p h1
  have hB := (H.s_lo _ e2).1
  refine ⟨?_, ?_, ?_, ?_, ?_, ?_, ?_, ?_, ?_, ?_, ?_, ?_, ?_, ?_, ?_⟩
  · exact ((((H.s_be.setCell (p := ⟨p, 0, none⟩) hB (.int .i64 C.O.st)).setCell (p := ⟨p, 1, none⟩) hB (.int .i64 C.O.val)).setCell (p := ⟨p, 2, none⟩) hB vo).setCell (p := ⟨p, 3, none⟩) hB (.int .i64 (C.O.steps : Int)))
  · intro k hk; have := H.s_lo k hk; simp only [World.setCell, Array.size_modify]; exact this
  · intro h4; simp [don, h2] at h4
  · have := H.s_img; first | (simpa [don, setV] using this) | (simp [don]; done) | (simp [don, *]; done)
  · have := H.s_inp; first | (simpa [don, setV] using this) | (simp [don]; done) | (simp [don, *]; done)
  · intro h5; have h6 := H.s_c1 (by simpa [don] using h5); exact ((((h6.setCell ⟨p, 0, none⟩ e2 (.int .i64 C.O.st)).setCell ⟨p, 1, none⟩ e2 (.int .i64 C.O.val)).setCell ⟨p, 2, none⟩ e2 vo).setCell ⟨p, 3, none⟩ e2 (.int .i64 (C.O.steps : Int)))
  · have := H.s_n; first | (simpa [don, setV] using this) | (simp [don]; done) | (simp [don, *]; done)
  · intro h5; have h6 := H.s_c2 (by simpa [don] using h5); exact ⟨h6.1, ((((h6.2.setCell ⟨p, 0, none⟩ e2 (.int .i64 C.O.st)).setCell ⟨p, 1, none⟩ e2 (.int .i64 C.O.val)).setCell ⟨p, 2, none⟩ e2 vo).setCell ⟨p, 3, none⟩ e2 (.int .i64 (C.O.steps : Int)))⟩
  · have := H.s_tup; first | (simpa [don, setV] using this) | (simp [don]; done) | (simp [don, *]; done)
  · have := H.s_x1; first | (simpa [don, setV] using this) | (simp [don]; done) | (simp [don, *]; done)
  · have := H.s_x2; first | (simpa [don, setV] using this) | (simp [don]; done) | (simp [don, *]; done)
  · intro _; exact ⟨e1, e2, _, _, _, _, by have := block_set (j := 3) (block_set (j := 2) (block_set (j := 1) (block_set (j := 0) (e3) (.int .i64 C.O.st)) (.int .i64 C.O.val)) vo) (.int .i64 (C.O.steps : Int)); simpa using this⟩
  · intro h5; obtain ⟨g1, g2, x', y', g3⟩ := H.s_q (by simpa [don] using h5)
    have hne : q ≠ p := fun e => by
      rw [e, e3] at g3
      injection g3 with g3
      injection g3 with _ g4
      revert g4
      decide
    refine ⟨g1, g2, x', y', ?_⟩
    rw [Below.heap_setCell _ _ _ _ hne]; rw [Below.heap_setCell _ _ _ _ hne]; rw [Below.heap_setCell _ _ _ _ hne]; rw [Below.heap_setCell _ _ _ _ hne]
    exact g3
  · intro _; exact ⟨by simpa [don] using h1, by have := block_set (j := 3) (block_set (j := 2) (block_set (j := 1) (block_set (j := 0) (e3) (.int .i64 C.O.st)) (.int .i64 C.O.val)) vo) (.int .i64 (C.O.steps : Int)); simpa using this⟩
  · intro h5; obtain ⟨g1, g3⟩ := H.s_sq (by simpa [don] using h5)
    have hne : q ≠ p := fun e => by
      rw [e, e3] at g3
      injection g3 with g3
      injection g3 with _ g4
      revert g4
      decide
    refine ⟨by simpa [don] using g1, ?_⟩
    rw [Below.heap_setCell _ _ _ _ hne]; rw [Below.heap_setCell _ _ _ _ hne]; rw [Below.heap_setCell _ _ _ _ hne]; rw [Below.heap_setCell _ _ _ _ hne]
    exact g3
theorem RA.fSQ (H : RA C L p q vo d val w) (h1 : d 9 = true) : RA C L p q vo (don d 11) val ((w.setCell ⟨q, 0, none⟩ (.int .i64 0)).setCell ⟨q, 1, none⟩ (.int .i64 0)) := by
  obtain ⟨e1, e2, x, y, e3⟩ := H.s_q h1
  have hB := (H.s_lo _ e2).1
  refine ⟨?_, ?_, ?_, ?_, ?_, ?_, ?_, ?_, ?_, ?_, ?_, ?_, ?_, ?_, ?_⟩
  · exact ((H.s_be.setCell (p := ⟨q, 0, none⟩) hB (.int .i64 0)).setCell (p := ⟨q, 1, none⟩) hB (.int .i64 0))
  · intro k hk; have := H.s_lo k hk; simp only [World.setCell, Array.size_modify]; exact this
  · have := H.s_o4; first | (simpa [don, setV] using this) | (simp [don]; done) | (simp [don, *]; done)
  · have := H.s_img; first | (simpa [don, setV] using this) | (simp [don]; done) | (simp [don, *]; done)
  · have := H.s_inp; first | (simpa [don, setV] using this) | (simp [don]; done) | (simp [don, *]; done)
  · intro h5; have h6 := H.s_c1 (by simpa [don] using h5); exact ((h6.setCell ⟨q, 0, none⟩ e2 (.int .i64 0)).setCell ⟨q, 1, none⟩ e2 (.int .i64 0))
  · have := H.s_n; first | (simpa [don, setV] using this) | (simp [don]; done) | (simp [don, *]; done)
  · intro h5; have h6 := H.s_c2 (by simpa [don] using h5); exact ⟨h6.1, ((h6.2.setCell ⟨q, 0, none⟩ e2 (.int .i64 0)).setCell ⟨q, 1, none⟩ e2 (.int .i64 0))⟩
  · have := H.s_tup; first | (simpa [don, setV] using this) | (simp [don]; done) | (simp [don, *]; done)
  · have := H.s_x1; first | (simpa [don, setV] using this) | (simp [don]; done) | (simp [don, *]; done)
  · have := H.s_x2; first | (simpa [don, setV] using this) | (simp [don]; done) | (simp [don, *]; done)
  · intro h5; obtain ⟨g1, g2, x', y', z', u', g3⟩ := H.s_p (by simpa [don] using h5)
    have hne : p ≠ q := fun e => by
      rw [e, e3] at g3
      injection g3 with g3
      injection g3 with _ g4
      revert g4
      decide
    refine ⟨g1, g2, x', y', z', u', ?_⟩
    rw [Below.heap_setCell _ _ _ _ hne]; rw [Below.heap_setCell _ _ _ _ hne]
    exact g3
  · intro _; exact ⟨e1, e2, _, _, by have := block_set (j := 1) (block_set (j := 0) (e3) (.int .i64 0)) (.int .i64 0); simpa using this⟩
  · intro h5; obtain ⟨g1, g3⟩ := H.s_sp (by simpa [don] using h5)
    have hne : p ≠ q := fun e => by
      rw [e, e3] at g3
      injection g3 with g3
      injection g3 with _ g4
      revert g4
      decide
    refine ⟨by simpa [don] using g1, ?_⟩
    rw [Below.heap_setCell _ _ _ _ hne]; rw [Below.heap_setCell _ _ _ _ hne]
    exact g3
  · intro _; exact ⟨by simpa [don] using h1, by have := block_set (j := 1) (block_set (j := 0) (e3) (.int .i64 0)) (.int .i64 0); simpa using this⟩
end
def RAI (C : RAC) (d : Nat → Bool) (val : Nat → Value) (w : World) : Prop := ∃ L p q vo, RA C L p q vo d val w
theorem RA.start (C : RAC) (val : Nat → Value) : RAI C (fun _ => false) val C.w0.drew := ⟨fun _ => false, 0, 0, .bool false, by
  refine ⟨(Below.refl _ _).drew, (fun _ h => by cases h), fun _ => ⟨rfl, rfl, rfl, rfl⟩, (fun h => by cases h), (fun h => by cases h), (fun h => by cases h), (fun h => by cases h), (fun h => by cases h), (fun h => by cases h), (fun h => by cases h), (fun h => by cases h), (fun h => by cases h), (fun h => by cases h), (fun h => by cases h), (fun h => by cases h)⟩⟩
section
variable {C : RAC} {L : Nat → Bool} {p q : Nat} {vo : Value} {d : Nat → Bool} {a0 a : Act} {w : World} {Q : Exit → Act → World → Prop} {o : Oper}
theorem RA.oImg (H : RA C L p q vo d (vals a) w) (hag : Ag RAS a0 a) {M : Nat} {x y : Value} {T : TypeId} (hi : C.img = .agg #[x, y]) (h8 : vals a0 8 = .pointer (some ⟨M, 0, none⟩)) (hM : C.w0.heap[M]? = some (.cells #[x, y] T (0, 0))) (hop : o.op = .load 50 (.tmp 8)) (hdst : o.dst = some 88) : o.wp Tryd.prog a w (Aft RAS a0 (RAI C) d 0) Q := by
  have e : a.eval (.tmp 8) = .pointer (some ⟨M, 0, none⟩) := (hag.old (by simp [RAS])).trans h8
  obtain ⟨c0, c1⟩ := cells_blk ((H.s_be.block _ (blk_lt hM)).trans hM)
  refine reg_value (v := C.img) (w' := w) hag hdst (by simp [RAS]) (by
    simp only [execOp, hop, e, hi]
    simp [go_sem, c0, c1]) ⟨L, p, q, vo, H.fImg⟩
theorem RA.oInp (H : RA C L p q vo d (vals a) w) (hag : Ag RAS a0 a) (h1 : vals a0 1 = C.vi) (hop : o.op = .move (.tmp 1)) (hdst : o.dst = some 89) : o.wp Tryd.prog a w (Aft RAS a0 (RAI C) d 1) Q := by
  have e : a.eval (.tmp 1) = C.vi := (hag.old (by simp [RAS])).trans h1
  refine reg_value (w' := w) hag hdst (by simp [RAS]) (by
    simp only [execOp, hop, e]
    rfl) ⟨L, p, q, vo, H.fInp⟩
theorem RA.oN (H : RA C L p q vo d (vals a) w) (hag : Ag RAS a0 a) (h1 : vals a0 15 = C.n) (hop : o.op = .move (.tmp 15)) (hdst : o.dst = some 91) : o.wp Tryd.prog a w (Aft RAS a0 (RAI C) d 3) Q := by
  have e : a.eval (.tmp 15) = C.n := (hag.old (by simp [RAS])).trans h1
  refine reg_value (w' := w) hag hdst (by simp [RAS]) (by
    simp only [execOp, hop, e]
    rfl) ⟨L, p, q, vo, H.fN⟩
theorem RA.oTup (H : RA C L p q vo d (vals a) w) (hag : Ag RAS a0 a) (h1 : d 4 = true) (hop : o.op = .move (.tmp 92)) (hdst : o.dst = some 87) : o.wp Tryd.prog a w (Aft RAS a0 (RAI C) d 5) Q := by
  have e : a.eval (.tmp 92) = _ := (H.s_c2 h1).1
  refine reg_value (w' := w) hag hdst (by simp [RAS]) (by
    simp only [execOp, hop, e]
    rfl) ⟨L, p, q, vo, H.fTup h1⟩
theorem RA.oX1 (H : RA C L p q vo d (vals a) w) (hag : Ag RAS a0 a) (h1 : d 5 = true) (hop : o.op = .extract (.tmp 87) 0) (hdst : o.dst = some 93) : o.wp Tryd.prog a w (Aft RAS a0 (RAI C) d 6) Q := by
  have e : a.eval (.tmp 87) = _ := H.s_tup h1
  have h2 : d 4 = true := by
    cases h : d 4 with
    | true => rfl
    | false =>
      have h3 := H.s_o4 h
      simp [h1] at h3
  refine reg_value (w' := w) hag hdst (by simp [RAS]) (by
    simp only [execOp, hop, e]
    rfl) ⟨L, p, q, vo, H.fX1 h2⟩
theorem RA.oX2 (H : RA C L p q vo d (vals a) w) (hag : Ag RAS a0 a) (h1 : d 5 = true) (hop : o.op = .extract (.tmp 87) 1) (hdst : o.dst = some 94) : o.wp Tryd.prog a w (Aft RAS a0 (RAI C) d 7) Q := by
  have e : a.eval (.tmp 87) = _ := H.s_tup h1
  have h2 : d 4 = true := by
    cases h : d 4 with
    | true => rfl
    | false =>
      have h3 := H.s_o4 h
      simp [h1] at h3
  refine reg_value (w' := w) hag hdst (by simp [RAS]) (by
    simp only [execOp, hop, e]
    rfl) ⟨L, p, q, vo, H.fX2 h2⟩
theorem RA.oC1 (H : RA C L p q vo d (vals a) w) (hag : Ag RAS a0 a) (h1 : d 1 = true) {f : FuncId} (hen : Enters Tryd.prog f) (hcal : ∀ w' (R : Ending → World → Prop), Below C.w0.heap.size C.w0 w' → (∀ w'' v, Below w'.heap.size w' w'' → rpInt.SLF w'' w'.heap.size w''.heap.size C.inp v → R (.returned v) w'') → Calls Tryd.prog f #[C.vi] w' R) {ty : TypeId} (hop : o.op = .call { callee := .value (.func f), args := #[.tmp 89], argTypes := #[ty] }) (hdst : o.dst = some 90) : o.wp Tryd.prog a w (Aft RAS a0 (RAI C) d 2) Q := by
  have e : a.tmps.getD 89 undef = C.vi := H.s_inp h1
  refine reg_call (f := f) (args := #[C.vi]) hag hdst (by simp [RAS]) (by
    have := hen.run
    simp only [execOp, hop, resolve]
    simp [go_sem, -Array.getD_eq_getD_getElem?, e, this]) fun R hR => ?_
  exact hcal w R H.s_be fun w'' v hb hv => hR _ _ ⟨L, p, q, vo, H.fC1 hb hv⟩
theorem RA.oC2 (H : RA C L p q vo d (vals a) w) (hag : Ag RAS a0 a) (hi : d 0 = true) (h1 : d 2 = true) (h3 : d 3 = true) (hd : d 4 = false) {f : FuncId} (hen : Enters Tryd.prog f) (hcal : ∀ w' v (R : Ending → World → Prop), Below C.w0.heap.size C.w0 w' → rpInt.SL w' w'.heap.size C.inp v → (∀ w'' u1, Below w'.heap.size w' w'' → rpInt.SLF w'' w'.heap.size w''.heap.size C.O.out u1 → R (.returned (.tuple #[.agg #[.int .i64 C.O.st, .int .i64 C.O.val, u1, .int .i64 (C.O.steps : Int)], .agg #[.int .i64 0, .int .i64 0]])) w'') → Calls Tryd.prog f #[C.img, v, C.n] w' R) {t1 t2 t3 : TypeId} (hop : o.op = .call { callee := .value (.func f), args := #[.tmp 88, .tmp 90, .tmp 91], argTypes := #[t1, t2, t3] }) (hdst : o.dst = some 92) : o.wp Tryd.prog a w (Aft RAS a0 (RAI C) d 4) Q := by
  have e1 : a.tmps.getD 88 undef = C.img := H.s_img hi
  have e3 : a.tmps.getD 91 undef = C.n := H.s_n h3
  obtain ⟨v, hv⟩ : ∃ v, vals a 90 = v := ⟨_, rfl⟩
  have e2 : a.tmps.getD 90 undef = v := hv
  have hs := H.s_c1 h1
  rw [hv] at hs
  refine reg_call (f := f) (args := #[C.img, v, C.n]) hag hdst (by simp [RAS]) (by
    have := hen.run
    simp only [execOp, hop, resolve]
    simp [go_sem, -Array.getD_eq_getD_getElem?, e1, e2, e3, this]) fun R hR => ?_
  exact hcal w v R H.s_be hs.SL fun w'' u1 hb h1 => hR _ _ ⟨L, p, q, u1, H.fC2 hd hb h1⟩
theorem RA.oP (H : RA C L p q vo d (vals a) w) (hag : Ag RAS a0 a) (hd : d 8 = false) (hop : o.op = .alloc 44) (hdst : o.dst = some 16) : o.wp Tryd.prog a w (Aft RAS a0 (RAI C) d 8) Q := by
  refine reg_value (v := .pointer (some ⟨w.heap.size, 0, none⟩)) (w' := w.alloc (.cells #[.int .i64 0, .int .i64 0, .slice none 0 0, .int .i64 0] 44)) hag hdst (by simp [RAS]) (by
    simp only [execOp, hop]
    simp [go_sem]) ⟨_, w.heap.size, q, vo, H.fP hd⟩
theorem RA.oQ (H : RA C L p q vo d (vals a) w) (hag : Ag RAS a0 a) (hd : d 9 = false) (hop : o.op = .alloc 25) (hdst : o.dst = some 17) : o.wp Tryd.prog a w (Aft RAS a0 (RAI C) d 9) Q := by
  refine reg_value (v := .pointer (some ⟨w.heap.size, 0, none⟩)) (w' := w.alloc (.cells #[.int .i64 0, .int .i64 0] 25)) hag hdst (by simp [RAS]) (by
    simp only [execOp, hop]
    simp [go_sem]) ⟨_, p, w.heap.size, vo, H.fQ hd⟩
theorem RA.oSP (H : RA C L p q vo d (vals a) w) (hag : Ag RAS a0 a) (h1 : d 8 = true) (h2 : d 6 = true) (hop : o.op = .store 44 (.tmp 16) (.tmp 93)) (hdst : o.dst = none) : o.wp Tryd.prog a w (Aft RAS a0 (RAI C) d 10) Q := by
  have h3 : d 4 = true := by
    cases h : d 4 with
    | true => rfl
    | false =>
      have h3 := H.s_o4 h
      simp [h2] at h3
  obtain ⟨e1, e2, x, y, z, u, e3⟩ := H.s_p h1
  have e4 := H.s_x1 h2
  have hs := (H.s_c2 h3).2
  obtain ⟨Ao, co, rfl, _, _, _⟩ := Rp.SL.cases_ hs
  obtain ⟨c0, c1, c2, c3, _⟩ := four_blk e3
  have ff : ∀ j, w.frozen? ⟨p, j, none⟩ = false := fun j => by simp [World.frozen?, e3]
  have g1 : a.tmps.getD 16 undef = _ := e1
  have g2 : a.tmps.getD 93 undef = _ := e4
  refine reg_skip (w' := _) hag hdst (by
    simp only [execOp, hop]
    simp [go_sem, -Array.getD_eq_getD_getElem?, g1, g2, c0, c1, c2, c3, ff]) ⟨L, p, q, _, H.fSP h1 h3⟩
theorem RA.oSQ (H : RA C L p q vo d (vals a) w) (hag : Ag RAS a0 a) (h1 : d 9 = true) (h2 : d 7 = true) (hop : o.op = .store 25 (.tmp 17) (.tmp 94)) (hdst : o.dst = none) : o.wp Tryd.prog a w (Aft RAS a0 (RAI C) d 11) Q := by
  obtain ⟨e1, e2, x, y, e3⟩ := H.s_q h1
  have e4 := H.s_x2 h2
  obtain ⟨c0, c1⟩ := cells_blk e3
  have ff : ∀ j, w.frozen? ⟨q, j, none⟩ = false := fun j => by simp [World.frozen?, e3]
  have g1 : a.tmps.getD 17 undef = _ := e1
  have g2 : a.tmps.getD 94 undef = _ := e4
  refine reg_skip (w' := _) hag hdst (by
    simp only [execOp, hop]
    simp [go_sem, -Array.getD_eq_getD_getElem?, g1, g2, c0, c1, ff]) ⟨L, p, q, vo, H.fSQ h1⟩
end
end Go.Proofs.YtemakpjickbmnaaDoor

/- LinkMet's region MrB: what holds on its way. Printed by genreg.py. -/
namespace Go.Proofs.YtemakpjickbmnaaDoor
open Go.RowKit
set_option linter.unusedSimpArgs false
set_option linter.unusedVariables false

structure RBC where
  w0 : World
  img : Value
  vi : Value
  inp : List Int
  n : Value
  T : List (List Int)
  O : Out
def RBS : List Nat := [18, 19, 20, 95, 96, 97, 98, 99, 100, 101, 102, 103]
structure RB (C : RBC) (L : Nat → Bool) (p q : Nat) (vt vo : Value) (d : Nat → Bool) (val : Nat → Value) (w : World) : Prop where
  s_be : Below C.w0.heap.size C.w0 w
  s_lo : ∀ k, L k = true → C.w0.heap.size ≤ k ∧ k < w.heap.size
  s_o4 : d 4 = false → d 5 = false ∧ d 6 = false ∧ d 7 = false ∧ d 8 = false ∧ d 11 = false ∧ d 12 = false
  s_img : d 0 = true → val 96 = C.img
  s_inp : d 1 = true → val 97 = C.vi
  s_c1 : d 2 = true → rpInt.SLL w L C.inp (val 98)
  s_n : d 3 = true → val 99 = C.n
  s_c2 : d 4 = true → val 100 = .tuple #[vt, .agg #[.int .i64 C.O.st, .int .i64 C.O.val, vo, .int .i64 (C.O.steps : Int)], .agg #[.int .i64 0, .int .i64 0]] ∧ rpInt.slice.SLL w L C.T vt ∧ rpInt.SLL w L C.O.out vo
  s_tup : d 5 = true → val 95 = .tuple #[vt, .agg #[.int .i64 C.O.st, .int .i64 C.O.val, vo, .int .i64 (C.O.steps : Int)], .agg #[.int .i64 0, .int .i64 0]]
  s_x0 : d 6 = true → val 101 = vt
  s_x1 : d 7 = true → val 102 = .agg #[.int .i64 C.O.st, .int .i64 C.O.val, vo, .int .i64 (C.O.steps : Int)]
  s_x2 : d 8 = true → val 103 = .agg #[.int .i64 0, .int .i64 0]
  s_p : d 9 = true → val 19 = .pointer (some ⟨p, 0, none⟩) ∧ L p = true ∧ ∃ x y z u, w.heap[p]? = some (.cells #[x, y, z, u] 44 (0, 0))
  s_q : d 10 = true → val 20 = .pointer (some ⟨q, 0, none⟩) ∧ L q = true ∧ ∃ x y, w.heap[q]? = some (.cells #[x, y] 25 (0, 0))
  s_r : d 11 = true → val 18 = vt
  s_sp : d 12 = true → d 9 = true ∧ w.heap[p]? = some (.cells #[.int .i64 C.O.st, .int .i64 C.O.val, vo, .int .i64 (C.O.steps : Int)] 44 (0, 0))
  s_sq : d 13 = true → d 10 = true ∧ w.heap[q]? = some (.cells #[.int .i64 0, .int .i64 0] 25 (0, 0))
section
variable {C : RBC} {L : Nat → Bool} {p q : Nat} {vt vo : Value} {d : Nat → Bool} {val : Nat → Value} {w : World}
theorem RB.up (H : RB C L p q vt vo d val w) {w' : World} {L' : Nat → Bool} (hb : Below w.heap.size w w') (hL : ∀ k, k < w.heap.size → L' k = L k) (hl : ∀ k, L' k = true → C.w0.heap.size ≤ k ∧ k < w'.heap.size) : RB C L' p q vt vo d val w' where
  s_be := H.s_be.trans (hb.mono H.s_be.size)
  s_lo := hl
  s_o4 := H.s_o4
  s_img := H.s_img
  s_inp := H.s_inp
  s_c1 := fun h => (H.s_c1 h).up hb (fun k hk e => by rw [hL k hk]; exact e)
  s_n := H.s_n
  s_c2 := fun h => ⟨(H.s_c2 h).1, (H.s_c2 h).2.1.up hb (fun k hk e => by rw [hL k hk]; exact e), (H.s_c2 h).2.2.up hb (fun k hk e => by rw [hL k hk]; exact e)⟩
  s_tup := H.s_tup
  s_x0 := H.s_x0
  s_x1 := H.s_x1
  s_x2 := H.s_x2
  s_p := fun h => by
    obtain ⟨h1, h2, x, y, z, u, h3⟩ := H.s_p h
    exact ⟨h1, by rw [hL _ (blk_lt h3)]; exact h2, x, y, z, u, (hb.block _ (blk_lt h3)).trans h3⟩
  s_q := fun h => by
    obtain ⟨h1, h2, x, y, h3⟩ := H.s_q h
    exact ⟨h1, by rw [hL _ (blk_lt h3)]; exact h2, x, y, (hb.block _ (blk_lt h3)).trans h3⟩
  s_r := H.s_r
  s_sp := fun h => ⟨(H.s_sp h).1, (hb.block _ (blk_lt (H.s_sp h).2)).trans (H.s_sp h).2⟩
  s_sq := fun h => ⟨(H.s_sq h).1, (hb.block _ (blk_lt (H.s_sq h).2)).trans (H.s_sq h).2⟩
theorem RB.fImg (H : RB C L p q vt vo d val w)  : RB C L p q vt vo (don d 0) (setV val 96 C.img) w := by
  refine ⟨?_, ?_, ?_, ?_, ?_, ?_, ?_, ?_, ?_, ?_, ?_, ?_, ?_, ?_, ?_, ?_, ?_⟩
  · exact H.s_be
  · exact H.s_lo
  · have := H.s_o4; first | (simpa [don, setV] using this) | (simp [don]; done) | (simp [don, *]; done)
  · intro _; simp [setV]
  · have := H.s_inp; first | (simpa [don, setV] using this) | (simp [don]; done) | (simp [don, *]; done)
  · have := H.s_c1; first | (simpa [don, setV] using this) | (simp [don]; done) | (simp [don, *]; done)
  · have := H.s_n; first | (simpa [don, setV] using this) | (simp [don]; done) | (simp [don, *]; done)
  · have := H.s_c2; first | (simpa [don, setV] using this) | (simp [don]; done) | (simp [don, *]; done)
  · have := H.s_tup; first | (simpa [don, setV] using this) | (simp [don]; done) | (simp [don, *]; done)
  · have := H.s_x0; first | (simpa [don, setV] using this) | (simp [don]; done) | (simp [don, *]; done)
  · have := H.s_x1; first | (simpa [don, setV] using this) | (simp [don]; done) | (simp [don, *]; done)
  · have := H.s_x2; first | (simpa [don, setV] using this) | (simp [don]; done) | (simp [don, *]; done)
  · have := H.s_p; first | (simpa [don, setV] using this) | (simp [don]; done) | (simp [don, *]; done)
  · have := H.s_q; first | (simpa [don, setV] using this) | (simp [don]; done) | (simp [don, *]; done)
  · have := H.s_r; first | (simpa [don, setV] using this) | (simp [don]; done) | (simp [don, *]; done)
  · have := H.s_sp; first | (simpa [don, setV] using this) | (simp [don]; done) | (simp [don, *]; done)
  · have := H.s_sq; first | (simpa [don, setV] using this) | (simp [don]; done) | (simp [don, *]; done)
theorem RB.fInp (H : RB C L p q vt vo d val w)  : RB C L p q vt vo (don d 1) (setV val 97 C.vi) w := by
  refine ⟨?_, ?_, ?_, ?_, ?_, ?_, ?_, ?_, ?_, ?_, ?_, ?_, ?_, ?_, ?_, ?_, ?_⟩
  · exact H.s_be
  · exact H.s_lo
  · have := H.s_o4; first | (simpa [don, setV] using this) | (simp [don]; done) | (simp [don, *]; done)
  · have := H.s_img; first | (simpa [don, setV] using this) | (simp [don]; done) | (simp [don, *]; done)
  · intro _; simp [setV]
  · have := H.s_c1; first | (simpa [don, setV] using this) | (simp [don]; done) | (simp [don, *]; done)
  · have := H.s_n; first | (simpa [don, setV] using this) | (simp [don]; done) | (simp [don, *]; done)
  · have := H.s_c2; first | (simpa [don, setV] using this) | (simp [don]; done) | (simp [don, *]; done)
  · have := H.s_tup; first | (simpa [don, setV] using this) | (simp [don]; done) | (simp [don, *]; done)
  · have := H.s_x0; first | (simpa [don, setV] using this) | (simp [don]; done) | (simp [don, *]; done)
  · have := H.s_x1; first | (simpa [don, setV] using this) | (simp [don]; done) | (simp [don, *]; done)
  · have := H.s_x2; first | (simpa [don, setV] using this) | (simp [don]; done) | (simp [don, *]; done)
  · have := H.s_p; first | (simpa [don, setV] using this) | (simp [don]; done) | (simp [don, *]; done)
  · have := H.s_q; first | (simpa [don, setV] using this) | (simp [don]; done) | (simp [don, *]; done)
  · have := H.s_r; first | (simpa [don, setV] using this) | (simp [don]; done) | (simp [don, *]; done)
  · have := H.s_sp; first | (simpa [don, setV] using this) | (simp [don]; done) | (simp [don, *]; done)
  · have := H.s_sq; first | (simpa [don, setV] using this) | (simp [don]; done) | (simp [don, *]; done)
theorem RB.fN (H : RB C L p q vt vo d val w)  : RB C L p q vt vo (don d 3) (setV val 99 C.n) w := by
  refine ⟨?_, ?_, ?_, ?_, ?_, ?_, ?_, ?_, ?_, ?_, ?_, ?_, ?_, ?_, ?_, ?_, ?_⟩
  · exact H.s_be
  · exact H.s_lo
  · have := H.s_o4; first | (simpa [don, setV] using this) | (simp [don]; done) | (simp [don, *]; done)
  · have := H.s_img; first | (simpa [don, setV] using this) | (simp [don]; done) | (simp [don, *]; done)
  · have := H.s_inp; first | (simpa [don, setV] using this) | (simp [don]; done) | (simp [don, *]; done)
  · have := H.s_c1; first | (simpa [don, setV] using this) | (simp [don]; done) | (simp [don, *]; done)
  · intro _; simp [setV]
  · have := H.s_c2; first | (simpa [don, setV] using this) | (simp [don]; done) | (simp [don, *]; done)
  · have := H.s_tup; first | (simpa [don, setV] using this) | (simp [don]; done) | (simp [don, *]; done)
  · have := H.s_x0; first | (simpa [don, setV] using this) | (simp [don]; done) | (simp [don, *]; done)
  · have := H.s_x1; first | (simpa [don, setV] using this) | (simp [don]; done) | (simp [don, *]; done)
  · have := H.s_x2; first | (simpa [don, setV] using this) | (simp [don]; done) | (simp [don, *]; done)
  · have := H.s_p; first | (simpa [don, setV] using this) | (simp [don]; done) | (simp [don, *]; done)
  · have := H.s_q; first | (simpa [don, setV] using this) | (simp [don]; done) | (simp [don, *]; done)
  · have := H.s_r; first | (simpa [don, setV] using this) | (simp [don]; done) | (simp [don, *]; done)
  · have := H.s_sp; first | (simpa [don, setV] using this) | (simp [don]; done) | (simp [don, *]; done)
  · have := H.s_sq; first | (simpa [don, setV] using this) | (simp [don]; done) | (simp [don, *]; done)
theorem RB.fTup (H : RB C L p q vt vo d val w) (h : d 4 = true) : RB C L p q vt vo (don d 5) (setV val 95 (.tuple #[vt, .agg #[.int .i64 C.O.st, .int .i64 C.O.val, vo, .int .i64 (C.O.steps : Int)], .agg #[.int .i64 0, .int .i64 0]])) w := by
  refine ⟨?_, ?_, ?_, ?_, ?_, ?_, ?_, ?_, ?_, ?_, ?_, ?_, ?_, ?_, ?_, ?_, ?_⟩
  · exact H.s_be
  · exact H.s_lo
  · intro h4; simp [don, h] at h4
  · have := H.s_img; first | (simpa [don, setV] using this) | (simp [don]; done) | (simp [don, *]; done)
  · have := H.s_inp; first | (simpa [don, setV] using this) | (simp [don]; done) | (simp [don, *]; done)
  · have := H.s_c1; first | (simpa [don, setV] using this) | (simp [don]; done) | (simp [don, *]; done)
  · have := H.s_n; first | (simpa [don, setV] using this) | (simp [don]; done) | (simp [don, *]; done)
  · have := H.s_c2; first | (simpa [don, setV] using this) | (simp [don]; done) | (simp [don, *]; done)
  · intro _; simp [setV]
  · have := H.s_x0; first | (simpa [don, setV] using this) | (simp [don]; done) | (simp [don, *]; done)
  · have := H.s_x1; first | (simpa [don, setV] using this) | (simp [don]; done) | (simp [don, *]; done)
  · have := H.s_x2; first | (simpa [don, setV] using this) | (simp [don]; done) | (simp [don, *]; done)
  · have := H.s_p; first | (simpa [don, setV] using this) | (simp [don]; done) | (simp [don, *]; done)
  · have := H.s_q; first | (simpa [don, setV] using this) | (simp [don]; done) | (simp [don, *]; done)
  · have := H.s_r; first | (simpa [don, setV] using this) | (simp [don]; done) | (simp [don, *]; done)
  · have := H.s_sp; first | (simpa [don, setV] using this) | (simp [don]; done) | (simp [don, *]; done)
  · have := H.s_sq; first | (simpa [don, setV] using this) | (simp [don]; done) | (simp [don, *]; done)
theorem RB.fX0 (H : RB C L p q vt vo d val w) (h : d 4 = true) : RB C L p q vt vo (don d 6) (setV val 101 vt) w := by
  refine ⟨?_, ?_, ?_, ?_, ?_, ?_, ?_, ?_, ?_, ?_, ?_, ?_, ?_, ?_, ?_, ?_, ?_⟩
  · exact H.s_be
  · exact H.s_lo
  · intro h4; simp [don, h] at h4
  · have := H.s_img; first | (simpa [don, setV] using this) | (simp [don]; done) | (simp [don, *]; done)
  · have := H.s_inp; first | (simpa [don, setV] using this) | (simp [don]; done) | (simp [don, *]; done)
  · have := H.s_c1; first | (simpa [don, setV] using this) | (simp [don]; done) | (simp [don, *]; done)
  · have := H.s_n; first | (simpa [don, setV] using this) | (simp [don]; done) | (simp [don, *]; done)
  · have := H.s_c2; first | (simpa [don, setV] using this) | (simp [don]; done) | (simp [don, *]; done)
  · have := H.s_tup; first | (simpa [don, setV] using this) | (simp [don]; done) | (simp [don, *]; done)
  · intro _; simp [setV]
  · have := H.s_x1; first | (simpa [don, setV] using this) | (simp [don]; done) | (simp [don, *]; done)
  · have := H.s_x2; first | (simpa [don, setV] using this) | (simp [don]; done) | (simp [don, *]; done)
  · have := H.s_p; first | (simpa [don, setV] using this) | (simp [don]; done) | (simp [don, *]; done)
  · have := H.s_q; first | (simpa [don, setV] using this) | (simp [don]; done) | (simp [don, *]; done)
  · have := H.s_r; first | (simpa [don, setV] using this) | (simp [don]; done) | (simp [don, *]; done)
  · have := H.s_sp; first | (simpa [don, setV] using this) | (simp [don]; done) | (simp [don, *]; done)
  · have := H.s_sq; first | (simpa [don, setV] using this) | (simp [don]; done) | (simp [don, *]; done)
theorem RB.fX1 (H : RB C L p q vt vo d val w) (h : d 4 = true) : RB C L p q vt vo (don d 7) (setV val 102 (.agg #[.int .i64 C.O.st, .int .i64 C.O.val, vo, .int .i64 (C.O.steps : Int)])) w := by
  refine ⟨?_, ?_, ?_, ?_, ?_, ?_, ?_, ?_, ?_, ?_, ?_, ?_, ?_, ?_, ?_, ?_, ?_⟩
  · exact H.s_be
  · exact H.s_lo
  · intro h4; simp [don, h] at h4
  · have := H.s_img; first | (simpa [don, setV] using this) | (simp [don]; done) | (simp [don, *]; done)
  · have := H.s_inp; first | (simpa [don, setV] using this) | (simp [don]; done) | (simp [don, *]; done)
  · have := H.s_c1; first | (simpa [don, setV] using this) | (simp [don]; done) | (simp [don, *]; done)
  · have := H.s_n; first | (simpa [don, setV] using this) | (simp [don]; done) | (simp [don, *]; done)
  · have := H.s_c2; first | (simpa [don, setV] using this) | (simp [don]; done) | (simp [don, *]; done)
  · have := H.s_tup; first | (simpa [don, setV] using this) | (simp [don]; done) | (simp [don, *]; done)
  · have := H.s_x0; first | (simpa [don, setV] using this) | (simp [don]; done) | (simp [don, *]; done)
  · intro _; simp [setV]
  · have := H.s_x2; first | (simpa [don, setV] using this) | (simp [don]; done) | (simp [don, *]; done)
  · have := H.s_p; first | (simpa [don, setV] using this) | (simp [don]; done) | (simp [don, *]; done)
  · have := H.s_q; first | (simpa [don, setV] using this) | (simp [don]; done) | (simp [don, *]; done)
  · have := H.s_r; first | (simpa [don, setV] using this) | (simp [don]; done) | (simp [don, *]; done)
  · have := H.s_sp; first | (simpa [don, setV] using this) | (simp [don]; done) | (simp [don, *]; done)
  · have := H.s_sq; first | (simpa [don, setV] using this) | (simp [don]; done) | (simp [don, *]; done)
theorem RB.fX2 (H : RB C L p q vt vo d val w) (h : d 4 = true) : RB C L p q vt vo (don d 8) (setV val 103 (.agg #[.int .i64 0, .int .i64 0])) w := by
  refine ⟨?_, ?_, ?_, ?_, ?_, ?_, ?_, ?_, ?_, ?_, ?_, ?_, ?_, ?_, ?_, ?_, ?_⟩
  · exact H.s_be
  · exact H.s_lo
  · intro h4; simp [don, h] at h4
  · have := H.s_img; first | (simpa [don, setV] using this) | (simp [don]; done) | (simp [don, *]; done)
  · have := H.s_inp; first | (simpa [don, setV] using this) | (simp [don]; done) | (simp [don, *]; done)
  · have := H.s_c1; first | (simpa [don, setV] using this) | (simp [don]; done) | (simp [don, *]; done)
  · have := H.s_n; first | (simpa [don, setV] using this) | (simp [don]; done) | (simp [don, *]; done)
  · have := H.s_c2; first | (simpa [don, setV] using this) | (simp [don]; done) | (simp [don, *]; done)
  · have := H.s_tup; first | (simpa [don, setV] using this) | (simp [don]; done) | (simp [don, *]; done)
  · have := H.s_x0; first | (simpa [don, setV] using this) | (simp [don]; done) | (simp [don, *]; done)
  · have := H.s_x1; first | (simpa [don, setV] using this) | (simp [don]; done) | (simp [don, *]; done)
  · intro _; simp [setV]
  · have := H.s_p; first | (simpa [don, setV] using this) | (simp [don]; done) | (simp [don, *]; done)
  · have := H.s_q; first | (simpa [don, setV] using this) | (simp [don]; done) | (simp [don, *]; done)
  · have := H.s_r; first | (simpa [don, setV] using this) | (simp [don]; done) | (simp [don, *]; done)
  · have := H.s_sp; first | (simpa [don, setV] using this) | (simp [don]; done) | (simp [don, *]; done)
  · have := H.s_sq; first | (simpa [don, setV] using this) | (simp [don]; done) | (simp [don, *]; done)
theorem RB.fR (H : RB C L p q vt vo d val w) (h : d 4 = true) : RB C L p q vt vo (don d 11) (setV val 18 vt) w := by
  refine ⟨?_, ?_, ?_, ?_, ?_, ?_, ?_, ?_, ?_, ?_, ?_, ?_, ?_, ?_, ?_, ?_, ?_⟩
  · exact H.s_be
  · exact H.s_lo
  · intro h4; simp [don, h] at h4
  · have := H.s_img; first | (simpa [don, setV] using this) | (simp [don]; done) | (simp [don, *]; done)
  · have := H.s_inp; first | (simpa [don, setV] using this) | (simp [don]; done) | (simp [don, *]; done)
  · have := H.s_c1; first | (simpa [don, setV] using this) | (simp [don]; done) | (simp [don, *]; done)
  · have := H.s_n; first | (simpa [don, setV] using this) | (simp [don]; done) | (simp [don, *]; done)
  · have := H.s_c2; first | (simpa [don, setV] using this) | (simp [don]; done) | (simp [don, *]; done)
  · have := H.s_tup; first | (simpa [don, setV] using this) | (simp [don]; done) | (simp [don, *]; done)
  · have := H.s_x0; first | (simpa [don, setV] using this) | (simp [don]; done) | (simp [don, *]; done)
  · have := H.s_x1; first | (simpa [don, setV] using this) | (simp [don]; done) | (simp [don, *]; done)
  · have := H.s_x2; first | (simpa [don, setV] using this) | (simp [don]; done) | (simp [don, *]; done)
  · have := H.s_p; first | (simpa [don, setV] using this) | (simp [don]; done) | (simp [don, *]; done)
  · have := H.s_q; first | (simpa [don, setV] using this) | (simp [don]; done) | (simp [don, *]; done)
  · intro _; simp [setV]
  · have := H.s_sp; first | (simpa [don, setV] using this) | (simp [don]; done) | (simp [don, *]; done)
  · have := H.s_sq; first | (simpa [don, setV] using this) | (simp [don]; done) | (simp [don, *]; done)
theorem RB.fC1 (H : RB C L p q vt vo d val w) {w' : World} {v : Value} (hb : Below w.heap.size w w') (hv : rpInt.SLF w' w.heap.size w'.heap.size C.inp v) : RB C L p q vt vo (don d 2) (setV val 98 v) w' := by
  have H2 := H.up (L' := L) hb (fun _ _ => rfl) (fun k hk => ⟨(H.s_lo k hk).1, Nat.lt_of_lt_of_le (H.s_lo k hk).2 hb.size⟩)
  refine ⟨?_, ?_, ?_, ?_, ?_, ?_, ?_, ?_, ?_, ?_, ?_, ?_, ?_, ?_, ?_, ?_, ?_⟩
  · exact H2.s_be
  · exact H2.s_lo
  · have := H2.s_o4; first | (simpa [don, setV] using this) | (simp [don]; done) | (simp [don, *]; done)
  · have := H2.s_img; first | (simpa [don, setV] using this) | (simp [don]; done) | (simp [don, *]; done)
  · have := H2.s_inp; first | (simpa [don, setV] using this) | (simp [don]; done) | (simp [don, *]; done)
  · intro _; simp only [setV, if_true]; exact Rp.SLL.of_SLF hv (fun k hk => (H.s_lo k hk).2)
  · have := H2.s_n; first | (simpa [don, setV] using this) | (simp [don]; done) | (simp [don, *]; done)
  · have := H2.s_c2; first | (simpa [don, setV] using this) | (simp [don]; done) | (simp [don, *]; done)
  · have := H2.s_tup; first | (simpa [don, setV] using this) | (simp [don]; done) | (simp [don, *]; done)
  · have := H2.s_x0; first | (simpa [don, setV] using this) | (simp [don]; done) | (simp [don, *]; done)
  · have := H2.s_x1; first | (simpa [don, setV] using this) | (simp [don]; done) | (simp [don, *]; done)
  · have := H2.s_x2; first | (simpa [don, setV] using this) | (simp [don]; done) | (simp [don, *]; done)
  · have := H2.s_p; first | (simpa [don, setV] using this) | (simp [don]; done) | (simp [don, *]; done)
  · have := H2.s_q; first | (simpa [don, setV] using this) | (simp [don]; done) | (simp [don, *]; done)
  · have := H2.s_r; first | (simpa [don, setV] using this) | (simp [don]; done) | (simp [don, *]; done)
  · have := H2.s_sp; first | (simpa [don, setV] using this) | (simp [don]; done) | (simp [don, *]; done)
  · have := H2.s_sq; first | (simpa [don, setV] using this) | (simp [don]; done) | (simp [don, *]; done)
theorem RB.fC2 (H : RB C L p q vt vo d val w) {w' : World} {u0 u1 : Value} (hd : d 4 = false) (hb : Below w.heap.size w w') (hv0 : rpInt.slice.SLF w' w.heap.size w'.heap.size C.T u0) (hv1 : rpInt.SLF w' w.heap.size w'.heap.size C.O.out u1) : RB C L p q u0 u1 (don d 4) (setV val 100 (.tuple #[u0, .agg #[.int .i64 C.O.st, .int .i64 C.O.val, u1, .int .i64 (C.O.steps : Int)], .agg #[.int .i64 0, .int .i64 0]])) w' := by
  have H2 := H.up (L' := L) hb (fun _ _ => rfl) (fun k hk => ⟨(H.s_lo k hk).1, Nat.lt_of_lt_of_le (H.s_lo k hk).2 hb.size⟩)
  obtain ⟨z_tup, z_x0, z_x1, z_x2, z_r, z_sp⟩ := H.s_o4 hd
  refine ⟨?_, ?_, ?_, ?_, ?_, ?_, ?_, ?_, ?_, ?_, ?_, ?_, ?_, ?_, ?_, ?_, ?_⟩
  · exact H2.s_be
  · exact H2.s_lo
  · intro h4; simp [don] at h4
  · have := H2.s_img; first | (simpa [don, setV] using this) | (simp [don]; done) | (simp [don, *]; done)
  · have := H2.s_inp; first | (simpa [don, setV] using this) | (simp [don]; done) | (simp [don, *]; done)
  · have := H2.s_c1; first | (simpa [don, setV] using this) | (simp [don]; done) | (simp [don, *]; done)
  · have := H2.s_n; first | (simpa [don, setV] using this) | (simp [don]; done) | (simp [don, *]; done)
  · intro _; simp only [setV, if_true]; exact ⟨trivial, Rp.SLL.of_SLF hv0 (fun k hk => (H.s_lo k hk).2), Rp.SLL.of_SLF hv1 (fun k hk => (H.s_lo k hk).2)⟩
  · intro h5; have h6 : d 5 = true := by simpa [don] using h5
    rw [z_tup] at h6; cases h6
  · intro h5; have h6 : d 6 = true := by simpa [don] using h5
    rw [z_x0] at h6; cases h6
  · intro h5; have h6 : d 7 = true := by simpa [don] using h5
    rw [z_x1] at h6; cases h6
  · intro h5; have h6 : d 8 = true := by simpa [don] using h5
    rw [z_x2] at h6; cases h6
  · have := H2.s_p; first | (simpa [don, setV] using this) | (simp [don]; done) | (simp [don, *]; done)
  · have := H2.s_q; first | (simpa [don, setV] using this) | (simp [don]; done) | (simp [don, *]; done)
  · intro h5; have h6 : d 11 = true := by simpa [don] using h5
    rw [z_r] at h6; cases h6
  · intro h5; have h6 : d 12 = true := by simpa [don] using h5
    rw [z_sp] at h6; cases h6
  · have := H2.s_sq; first | (simpa [don, setV] using this) | (simp [don]; done) | (simp [don, *]; done)
theorem RB.fP (H : RB C L p q vt vo d val w) (hd : d 9 = false) : RB C (fun k => L k || k == w.heap.size) w.heap.size q vt vo (don d 9) (setV val 19 (.pointer (some ⟨w.heap.size, 0, none⟩))) (w.alloc (.cells #[.int .i64 0, .int .i64 0, .slice none 0 0, .int .i64 0] 44)) := by
  have hz := H.s_be.size
  have H2 := H.up (w' := w.alloc (.cells #[.int .i64 0, .int .i64 0, .slice none 0 0, .int .i64 0] 44)) (L' := fun k => L k || k == w.heap.size) (by exact bl0) (fun k hk => by
    have h0 : (k == w.heap.size) = false := beq_eq_false_iff_ne.2 (by omega)
    simp only [h0, Bool.or_false]) (fun k hk => by
    rw [Bool.or_eq_true] at hk
    rcases hk with hk | hk
    · have := H.s_lo k hk; simp; omega
    · have : k = w.heap.size := by simpa using hk
      subst this; simp; omega)
  refine ⟨?_, ?_, ?_, ?_, ?_, ?_, ?_, ?_, ?_, ?_, ?_, ?_, ?_, ?_, ?_, ?_, ?_⟩
  · exact H2.s_be
  · exact H2.s_lo
  · have := H2.s_o4; first | (simpa [don, setV] using this) | (simp [don]; done) | (simp [don, *]; done)
  · have := H2.s_img; first | (simpa [don, setV] using this) | (simp [don]; done) | (simp [don, *]; done)
  · have := H2.s_inp; first | (simpa [don, setV] using this) | (simp [don]; done) | (simp [don, *]; done)
  · have := H2.s_c1; first | (simpa [don, setV] using this) | (simp [don]; done) | (simp [don, *]; done)
  · have := H2.s_n; first | (simpa [don, setV] using this) | (simp [don]; done) | (simp [don, *]; done)
  · have := H2.s_c2; first | (simpa [don, setV] using this) | (simp [don]; done) | (simp [don, *]; done)
  · have := H2.s_tup; first | (simpa [don, setV] using this) | (simp [don]; done) | (simp [don, *]; done)
  · have := H2.s_x0; first | (simpa [don, setV] using this) | (simp [don]; done) | (simp [don, *]; done)
  · have := H2.s_x1; first | (simpa [don, setV] using this) | (simp [don]; done) | (simp [don, *]; done)
  · have := H2.s_x2; first | (simpa [don, setV] using this) | (simp [don]; done) | (simp [don, *]; done)
  · intro _; exact ⟨by simp [setV], by simp, _, _, _, _, heap_alloc_new _ _⟩
  · have := H2.s_q; first | (simpa [don, setV] using this) | (simp [don]; done) | (simp [don, *]; done)
  · have := H2.s_r; first | (simpa [don, setV] using this) | (simp [don]; done) | (simp [don, *]; done)
  · intro h5; have h6 : d 12 = true := by simpa [don] using h5
    have h7 := (H.s_sp h6).1
    rw [hd] at h7; cases h7
  · have := H2.s_sq; first | (simpa [don, setV] using this) | (simp [don]; done) | (simp [don, *]; done)
theorem RB.fQ (H : RB C L p q vt vo d val w) (hd : d 10 = false) : RB C (fun k => L k || k == w.heap.size) p w.heap.size vt vo (don d 10) (setV val 20 (.pointer (some ⟨w.heap.size, 0, none⟩))) (w.alloc (.cells #[.int .i64 0, .int .i64 0] 25)) := by
  have hz := H.s_be.size
  have H2 := H.up (w' := w.alloc (.cells #[.int .i64 0, .int .i64 0] 25)) (L' := fun k => L k || k == w.heap.size) (by exact bl0) (fun k hk => by
    have h0 : (k == w.heap.size) = false := beq_eq_false_iff_ne.2 (by omega)
    simp only [h0, Bool.or_false]) (fun k hk => by
    rw [Bool.or_eq_true] at hk
    rcases hk with hk | hk
    · have := H.s_lo k hk; simp; omega
    · have : k = w.heap.size := by simpa using hk
      subst this; simp; omega)
  refine ⟨?_, ?_, ?_, ?_, ?_, ?_, ?_, ?_, ?_, ?_, ?_, ?_, ?_, ?_, ?_, ?_, ?_⟩
  · exact H2.s_be
  · exact H2.s_lo
  · have := H2.s_o4; first | (simpa [don, setV] using this) | (simp [don]; done) | (simp [don, *]; done)
  · have := H2.s_img; first | (simpa [don, setV] using this) | (simp [don]; done) | (simp [don, *]; done)
  · have := H2.s_inp; first | (simpa [don, setV] using this) | (simp [don]; done) | (simp [don, *]; done)
  · have := H2.s_c1; first | (simpa [don, setV] using this) | (simp [don]; done) | (simp [don, *]; done)
  · have := H2.s_n; first | (simpa [don, setV] using this) | (simp [don]; done) | (simp [don, *]; done)
  · have := H2.s_c2; first | (simpa [don, setV] using this) | (simp [don]; done) | (simp [don, *]; done)
  · have := H2.s_tup; first | (simpa [don, setV] using this) | (simp [don]; done) | (simp [don, *]; done)
  · have := H2.s_x0; first | (simpa [don, setV] using this) | (simp [don]; done) | (simp [don, *]; done)
  · have := H2.s_x1; first | (simpa [don, setV] using this) | (simp [don]; done) | (simp [don, *]; done)
  · have := H2.s_x2; first | (simpa [don, setV] using this) | (simp [don]; done) | (simp [don, *]; done)
  · have := H2.s_p; first | (simpa [don, setV] using this) | (simp [don]; done) | (simp [don, *]; done)
  · intro _; exact ⟨by simp [setV], by simp, _, _, heap_alloc_new _ _⟩
  · have := H2.s_r; first | (simpa [don, setV] using this) | (simp [don]; done) | (simp [don, *]; done)
  · have := H2.s_sp; first | (simpa [don, setV] using this) | (simp [don]; done) | (simp [don, *]; done)
  · intro h5; have h6 : d 13 = true := by simpa [don] using h5
    have h7 := (H.s_sq h6).1
    rw [hd] at h7; cases h7
theorem RB.fSP (H : RB C L p q vt vo d val w) (h1 : d 9 = true) (h2 : d 4 = true) : RB C L p q vt vo (don d 12) val ((((w.setCell ⟨p, 0, none⟩ (.int .i64 C.O.st)).setCell ⟨p, 1, none⟩ (.int .i64 C.O.val)).setCell ⟨p, 2, none⟩ vo).setCell ⟨p, 3, none⟩ (.int .i64 (C.O.steps : Int))) := by
  obtain ⟨e1, e2, x, y, z, u, e3⟩ := H.s_p h1
  have hB := (H.s_lo _ e2).1
  refine ⟨?_, ?_, ?_, ?_, ?_, ?_, ?_, ?_, ?_, ?_, ?_, ?_, ?_, ?_, ?_, ?_, ?_⟩
  · exact ((((H.s_be.setCell (p := ⟨p, 0, none⟩) hB (.int .i64 C.O.st)).setCell (p := ⟨p, 1, none⟩) hB (.int .i64 C.O.val)).setCell (p := ⟨p, 2, none⟩) hB vo).setCell (p := ⟨p, 3, none⟩) hB (.int .i64 (C.O.steps : Int)))
  · intro k hk; have := H.s_lo k hk; simp only [World.setCell, Array.size_modify]; exact this
  · intro h4; simp [don, h2] at h4
  · have := H.s_img; first | (simpa [don, setV] using this) | (simp [don]; done) | (simp [don, *]; done)
  · have := H.s_inp; first | (simpa [don, setV] using this) | (simp [don]; done) | (simp [don, *]; done)
  · intro h5; have h6 := H.s_c1 (by simpa [don] using h5); exact ((((h6.setCell ⟨p, 0, none⟩ e2 (.int .i64 C.O.st)).setCell ⟨p, 1, none⟩ e2 (.int .i64 C.O.val)).setCell ⟨p, 2, none⟩ e2 vo).setCell ⟨p, 3, none⟩ e2 (.int .i64 (C.O.steps : Int)))
  · have := H.s_n; first | (simpa [don, setV] using this) | (simp [don]; done) | (simp [don, *]; done)
  · intro h5; have h6 := H.s_c2 (by simpa [don] using h5); exact ⟨h6.1, ((((h6.2.1.setCell ⟨p, 0, none⟩ e2 (.int .i64 C.O.st)).setCell ⟨p, 1, none⟩ e2 (.int .i64 C.O.val)).setCell ⟨p, 2, none⟩ e2 vo).setCell ⟨p, 3, none⟩ e2 (.int .i64 (C.O.steps : Int))), ((((h6.2.2.setCell ⟨p, 0, none⟩ e2 (.int .i64 C.O.st)).setCell ⟨p, 1, none⟩ e2 (.int .i64 C.O.val)).setCell ⟨p, 2, none⟩ e2 vo).setCell ⟨p, 3, none⟩ e2 (.int .i64 (C.O.steps : Int)))⟩
  · have := H.s_tup; first | (simpa [don, setV] using this) | (simp [don]; done) | (simp [don, *]; done)
  · have := H.s_x0; first | (simpa [don, setV] using this) | (simp [don]; done) | (simp [don, *]; done)
  · have := H.s_x1; first | (simpa [don, setV] using this) | (simp [don]; done) | (simp [don, *]; done)
  · have := H.s_x2; first | (simpa [don, setV] using this) | (simp [don]; done) | (simp [don, *]; done)
  · intro _; exact ⟨e1, e2, _, _, _, _, by have := block_set (j := 3) (block_set (j := 2) (block_set (j := 1) (block_set (j := 0) (e3) (.int .i64 C.O.st)) (.int .i64 C.O.val)) vo) (.int .i64 (C.O.steps : Int)); simpa using this⟩
  · intro h5; obtain ⟨g1, g2, x', y', g3⟩ := H.s_q (by simpa [don] using h5)
    have hne : q ≠ p := fun e => by
      rw [e, e3] at g3
      injection g3 with g3
      injection g3 with _ g4
      revert g4
      decide
    refine ⟨g1, g2, x', y', ?_⟩
    rw [Below.heap_setCell _ _ _ _ hne]; rw [Below.heap_setCell _ _ _ _ hne]; rw [Below.heap_setCell _ _ _ _ hne]; rw [Below.heap_setCell _ _ _ _ hne]
    exact g3
  · have := H.s_r; first | (simpa [don, setV] using this) | (simp [don]; done) | (simp [don, *]; done)
  · intro _; exact ⟨by simpa [don] using h1, by have := block_set (j := 3) (block_set (j := 2) (block_set (j := 1) (block_set (j := 0) (e3) (.int .i64 C.O.st)) (.int .i64 C.O.val)) vo) (.int .i64 (C.O.steps : Int)); simpa using this⟩
  · intro h5; obtain ⟨g1, g3⟩ := H.s_sq (by simpa [don] using h5)
    have hne : q ≠ p := fun e => by
      rw [e, e3] at g3
      injection g3 with g3
      injection g3 with _ g4
      revert g4
      decide
    refine ⟨by simpa [don] using g1, ?_⟩
    rw [Below.heap_setCell _ _ _ _ hne]; rw [Below.heap_setCell _ _ _ _ hne]; rw [Below.heap_setCell _ _ _ _ hne]; rw [Below.heap_setCell _ _ _ _ hne]
    exact g3
theorem RB.fSQ (H : RB C L p q vt vo d val w) (h1 : d 10 = true) : RB C L p q vt vo (don d 13) val ((w.setCell ⟨q, 0, none⟩ (.int .i64 0)).setCell ⟨q, 1, none⟩ (.int .i64 0)) := by
  obtain ⟨e1, e2, x, y, e3⟩ := H.s_q h1
  have hB := (H.s_lo _ e2).1
  refine ⟨?_, ?_, ?_, ?_, ?_, ?_, ?_, ?_, ?_, ?_, ?_, ?_, ?_, ?_, ?_, ?_, ?_⟩
  · exact ((H.s_be.setCell (p := ⟨q, 0, none⟩) hB (.int .i64 0)).setCell (p := ⟨q, 1, none⟩) hB (.int .i64 0))
  · intro k hk; have := H.s_lo k hk; simp only [World.setCell, Array.size_modify]; exact this
  · have := H.s_o4; first | (simpa [don, setV] using this) | (simp [don]; done) | (simp [don, *]; done)
  · have := H.s_img; first | (simpa [don, setV] using this) | (simp [don]; done) | (simp [don, *]; done)
  · have := H.s_inp; first | (simpa [don, setV] using this) | (simp [don]; done) | (simp [don, *]; done)
  · intro h5; have h6 := H.s_c1 (by simpa [don] using h5); exact ((h6.setCell ⟨q, 0, none⟩ e2 (.int .i64 0)).setCell ⟨q, 1, none⟩ e2 (.int .i64 0))
  · have := H.s_n; first | (simpa [don, setV] using this) | (simp [don]; done) | (simp [don, *]; done)
  · intro h5; have h6 := H.s_c2 (by simpa [don] using h5); exact ⟨h6.1, ((h6.2.1.setCell ⟨q, 0, none⟩ e2 (.int .i64 0)).setCell ⟨q, 1, none⟩ e2 (.int .i64 0)), ((h6.2.2.setCell ⟨q, 0, none⟩ e2 (.int .i64 0)).setCell ⟨q, 1, none⟩ e2 (.int .i64 0))⟩
  · have := H.s_tup; first | (simpa [don, setV] using this) | (simp [don]; done) | (simp [don, *]; done)
  · have := H.s_x0; first | (simpa [don, setV] using this) | (simp [don]; done) | (simp [don, *]; done)
  · have := H.s_x1; first | (simpa [don, setV] using this) | (simp [don]; done) | (simp [don, *]; done)
  · have := H.s_x2; first | (simpa [don, setV] using this) | (simp [don]; done) | (simp [don, *]; done)
  · intro h5; obtain ⟨g1, g2, x', y', z', u', g3⟩ := H.s_p (by simpa [don] using h5)
    have hne : p ≠ q := fun e => by
      rw [e, e3] at g3
      injection g3 with g3
      injection g3 with _ g4
      revert g4
      decide
    refine ⟨g1, g2, x', y', z', u', ?_⟩
    rw [Below.heap_setCell _ _ _ _ hne]; rw [Below.heap_setCell _ _ _ _ hne]
    exact g3
  · intro _; exact ⟨e1, e2, _, _, by have := block_set (j := 1) (block_set (j := 0) (e3) (.int .i64 0)) (.int .i64 0); simpa using this⟩
  · have := H.s_r; first | (simpa [don, setV] using this) | (simp [don]; done) | (simp [don, *]; done)
  · intro h5; obtain ⟨g1, g3⟩ := H.s_sp (by simpa [don] using h5)
    have hne : p ≠ q := fun e => by
      rw [e, e3] at g3
      injection g3 with g3
      injection g3 with _ g4
      revert g4
      decide
    refine ⟨by simpa [don] using g1, ?_⟩
    rw [Below.heap_setCell _ _ _ _ hne]; rw [Below.heap_setCell _ _ _ _ hne]
    exact g3
  · intro _; exact ⟨by simpa [don] using h1, by have := block_set (j := 1) (block_set (j := 0) (e3) (.int .i64 0)) (.int .i64 0); simpa using this⟩
end
def RBI (C : RBC) (d : Nat → Bool) (val : Nat → Value) (w : World) : Prop := ∃ L p q vt vo, RB C L p q vt vo d val w
theorem RB.start (C : RBC) (val : Nat → Value) : RBI C (fun _ => false) val C.w0.drew := ⟨fun _ => false, 0, 0, .bool false, .bool false, by
  refine ⟨(Below.refl _ _).drew, (fun _ h => by cases h), fun _ => ⟨rfl, rfl, rfl, rfl, rfl, rfl⟩, (fun h => by cases h), (fun h => by cases h), (fun h => by cases h), (fun h => by cases h), (fun h => by cases h), (fun h => by cases h), (fun h => by cases h), (fun h => by cases h), (fun h => by cases h), (fun h => by cases h), (fun h => by cases h), (fun h => by cases h), (fun h => by cases h), (fun h => by cases h)⟩⟩
section
variable {C : RBC} {L : Nat → Bool} {p q : Nat} {vt vo : Value} {d : Nat → Bool} {a0 a : Act} {w : World} {Q : Exit → Act → World → Prop} {o : Oper}
theorem RB.oImg (H : RB C L p q vt vo d (vals a) w) (hag : Ag RBS a0 a) {M : Nat} {x y : Value} {T : TypeId} (hi : C.img = .agg #[x, y]) (h8 : vals a0 10 = .pointer (some ⟨M, 0, none⟩)) (hM : C.w0.heap[M]? = some (.cells #[x, y] T (0, 0))) (hop : o.op = .load 50 (.tmp 10)) (hdst : o.dst = some 96) : o.wp Tryd.prog a w (Aft RBS a0 (RBI C) d 0) Q := by
  have e : a.eval (.tmp 10) = .pointer (some ⟨M, 0, none⟩) := (hag.old (by simp [RBS])).trans h8
  obtain ⟨c0, c1⟩ := cells_blk ((H.s_be.block _ (blk_lt hM)).trans hM)
  refine reg_value (v := C.img) (w' := w) hag hdst (by simp [RBS]) (by
    simp only [execOp, hop, e, hi]
    simp [go_sem, c0, c1]) ⟨L, p, q, vt, vo, H.fImg⟩
theorem RB.oInp (H : RB C L p q vt vo d (vals a) w) (hag : Ag RBS a0 a) (h1 : vals a0 1 = C.vi) (hop : o.op = .move (.tmp 1)) (hdst : o.dst = some 97) : o.wp Tryd.prog a w (Aft RBS a0 (RBI C) d 1) Q := by
  have e : a.eval (.tmp 1) = C.vi := (hag.old (by simp [RBS])).trans h1
  refine reg_value (w' := w) hag hdst (by simp [RBS]) (by
    simp only [execOp, hop, e]
    rfl) ⟨L, p, q, vt, vo, H.fInp⟩
theorem RB.oN (H : RB C L p q vt vo d (vals a) w) (hag : Ag RBS a0 a) (h1 : vals a0 15 = C.n) (hop : o.op = .move (.tmp 15)) (hdst : o.dst = some 99) : o.wp Tryd.prog a w (Aft RBS a0 (RBI C) d 3) Q := by
  have e : a.eval (.tmp 15) = C.n := (hag.old (by simp [RBS])).trans h1
  refine reg_value (w' := w) hag hdst (by simp [RBS]) (by
    simp only [execOp, hop, e]
    rfl) ⟨L, p, q, vt, vo, H.fN⟩
theorem RB.oTup (H : RB C L p q vt vo d (vals a) w) (hag : Ag RBS a0 a) (h1 : d 4 = true) (hop : o.op = .move (.tmp 100)) (hdst : o.dst = some 95) : o.wp Tryd.prog a w (Aft RBS a0 (RBI C) d 5) Q := by
  have e : a.eval (.tmp 100) = _ := (H.s_c2 h1).1
  refine reg_value (w' := w) hag hdst (by simp [RBS]) (by
    simp only [execOp, hop, e]
    rfl) ⟨L, p, q, vt, vo, H.fTup h1⟩
theorem RB.oX0 (H : RB C L p q vt vo d (vals a) w) (hag : Ag RBS a0 a) (h1 : d 5 = true) (hop : o.op = .extract (.tmp 95) 0) (hdst : o.dst = some 101) : o.wp Tryd.prog a w (Aft RBS a0 (RBI C) d 6) Q := by
  have e : a.eval (.tmp 95) = _ := H.s_tup h1
  have h2 : d 4 = true := by
    cases h : d 4 with
    | true => rfl
    | false =>
      have h3 := H.s_o4 h
      simp [h1] at h3
  refine reg_value (w' := w) hag hdst (by simp [RBS]) (by
    simp only [execOp, hop, e]
    rfl) ⟨L, p, q, vt, vo, H.fX0 h2⟩
theorem RB.oX1 (H : RB C L p q vt vo d (vals a) w) (hag : Ag RBS a0 a) (h1 : d 5 = true) (hop : o.op = .extract (.tmp 95) 1) (hdst : o.dst = some 102) : o.wp Tryd.prog a w (Aft RBS a0 (RBI C) d 7) Q := by
  have e : a.eval (.tmp 95) = _ := H.s_tup h1
  have h2 : d 4 = true := by
    cases h : d 4 with
    | true => rfl
    | false =>
      have h3 := H.s_o4 h
      simp [h1] at h3
  refine reg_value (w' := w) hag hdst (by simp [RBS]) (by
    simp only [execOp, hop, e]
    rfl) ⟨L, p, q, vt, vo, H.fX1 h2⟩
theorem RB.oX2 (H : RB C L p q vt vo d (vals a) w) (hag : Ag RBS a0 a) (h1 : d 5 = true) (hop : o.op = .extract (.tmp 95) 2) (hdst : o.dst = some 103) : o.wp Tryd.prog a w (Aft RBS a0 (RBI C) d 8) Q := by
  have e : a.eval (.tmp 95) = _ := H.s_tup h1
  have h2 : d 4 = true := by
    cases h : d 4 with
    | true => rfl
    | false =>
      have h3 := H.s_o4 h
      simp [h1] at h3
  refine reg_value (w' := w) hag hdst (by simp [RBS]) (by
    simp only [execOp, hop, e]
    rfl) ⟨L, p, q, vt, vo, H.fX2 h2⟩
theorem RB.oR (H : RB C L p q vt vo d (vals a) w) (hag : Ag RBS a0 a) (h1 : d 6 = true) (hop : o.op = .assign (.tmp 101)) (hdst : o.dst = some 18) : o.wp Tryd.prog a w (Aft RBS a0 (RBI C) d 11) Q := by
  have e : a.eval (.tmp 101) = _ := H.s_x0 h1
  have h2 : d 4 = true := by
    cases h : d 4 with
    | true => rfl
    | false =>
      have h3 := H.s_o4 h
      simp [h1] at h3
  refine reg_value (w' := w) hag hdst (by simp [RBS]) (by
    simp only [execOp, hop, e]
    rfl) ⟨L, p, q, vt, vo, H.fR h2⟩
theorem RB.oC1 (H : RB C L p q vt vo d (vals a) w) (hag : Ag RBS a0 a) (h1 : d 1 = true) {f : FuncId} (hen : Enters Tryd.prog f) (hcal : ∀ w' (R : Ending → World → Prop), Below C.w0.heap.size C.w0 w' → (∀ w'' v, Below w'.heap.size w' w'' → rpInt.SLF w'' w'.heap.size w''.heap.size C.inp v → R (.returned v) w'') → Calls Tryd.prog f #[C.vi] w' R) {ty : TypeId} (hop : o.op = .call { callee := .value (.func f), args := #[.tmp 97], argTypes := #[ty] }) (hdst : o.dst = some 98) : o.wp Tryd.prog a w (Aft RBS a0 (RBI C) d 2) Q := by
  have e : a.tmps.getD 97 undef = C.vi := H.s_inp h1
  refine reg_call (f := f) (args := #[C.vi]) hag hdst (by simp [RBS]) (by
    have := hen.run
    simp only [execOp, hop, resolve]
    simp [go_sem, -Array.getD_eq_getD_getElem?, e, this]) fun R hR => ?_
  exact hcal w R H.s_be fun w'' v hb hv => hR _ _ ⟨L, p, q, vt, vo, H.fC1 hb hv⟩
theorem RB.oC2 (H : RB C L p q vt vo d (vals a) w) (hag : Ag RBS a0 a) (hi : d 0 = true) (h1 : d 2 = true) (h3 : d 3 = true) (hd : d 4 = false) {f : FuncId} (hen : Enters Tryd.prog f) (hcal : ∀ w' v (R : Ending → World → Prop), Below C.w0.heap.size C.w0 w' → rpInt.SL w' w'.heap.size C.inp v → (∀ w'' u0 u1, Below w'.heap.size w' w'' → rpInt.slice.SLF w'' w'.heap.size w''.heap.size C.T u0 → rpInt.SLF w'' w'.heap.size w''.heap.size C.O.out u1 → R (.returned (.tuple #[u0, .agg #[.int .i64 C.O.st, .int .i64 C.O.val, u1, .int .i64 (C.O.steps : Int)], .agg #[.int .i64 0, .int .i64 0]])) w'') → Calls Tryd.prog f #[C.img, v, C.n] w' R) {t1 t2 t3 : TypeId} (hop : o.op = .call { callee := .value (.func f), args := #[.tmp 96, .tmp 98, .tmp 99], argTypes := #[t1, t2, t3] }) (hdst : o.dst = some 100) : o.wp Tryd.prog a w (Aft RBS a0 (RBI C) d 4) Q := by
  have e1 : a.tmps.getD 96 undef = C.img := H.s_img hi
  have e3 : a.tmps.getD 99 undef = C.n := H.s_n h3
  obtain ⟨v, hv⟩ : ∃ v, vals a 98 = v := ⟨_, rfl⟩
  have e2 : a.tmps.getD 98 undef = v := hv
  have hs := H.s_c1 h1
  rw [hv] at hs
  refine reg_call (f := f) (args := #[C.img, v, C.n]) hag hdst (by simp [RBS]) (by
    have := hen.run
    simp only [execOp, hop, resolve]
    simp [go_sem, -Array.getD_eq_getD_getElem?, e1, e2, e3, this]) fun R hR => ?_
  exact hcal w v R H.s_be hs.SL fun w'' u0 u1 hb h0 h1 => hR _ _ ⟨L, p, q, u0, u1, H.fC2 hd hb h0 h1⟩
theorem RB.oP (H : RB C L p q vt vo d (vals a) w) (hag : Ag RBS a0 a) (hd : d 9 = false) (hop : o.op = .alloc 44) (hdst : o.dst = some 19) : o.wp Tryd.prog a w (Aft RBS a0 (RBI C) d 9) Q := by
  refine reg_value (v := .pointer (some ⟨w.heap.size, 0, none⟩)) (w' := w.alloc (.cells #[.int .i64 0, .int .i64 0, .slice none 0 0, .int .i64 0] 44)) hag hdst (by simp [RBS]) (by
    simp only [execOp, hop]
    simp [go_sem]) ⟨_, w.heap.size, q, vt, vo, H.fP hd⟩
theorem RB.oQ (H : RB C L p q vt vo d (vals a) w) (hag : Ag RBS a0 a) (hd : d 10 = false) (hop : o.op = .alloc 25) (hdst : o.dst = some 20) : o.wp Tryd.prog a w (Aft RBS a0 (RBI C) d 10) Q := by
  refine reg_value (v := .pointer (some ⟨w.heap.size, 0, none⟩)) (w' := w.alloc (.cells #[.int .i64 0, .int .i64 0] 25)) hag hdst (by simp [RBS]) (by
    simp only [execOp, hop]
    simp [go_sem]) ⟨_, p, w.heap.size, vt, vo, H.fQ hd⟩
theorem RB.oSP (H : RB C L p q vt vo d (vals a) w) (hag : Ag RBS a0 a) (h1 : d 9 = true) (h2 : d 7 = true) (hop : o.op = .store 44 (.tmp 19) (.tmp 102)) (hdst : o.dst = none) : o.wp Tryd.prog a w (Aft RBS a0 (RBI C) d 12) Q := by
  have h3 : d 4 = true := by
    cases h : d 4 with
    | true => rfl
    | false =>
      have h3 := H.s_o4 h
      simp [h2] at h3
  obtain ⟨e1, e2, x, y, z, u, e3⟩ := H.s_p h1
  have e4 := H.s_x1 h2
  have hs := (H.s_c2 h3).2.2
  obtain ⟨Ao, co, rfl, _, _, _⟩ := Rp.SL.cases_ hs
  obtain ⟨c0, c1, c2, c3, _⟩ := four_blk e3
  have ff : ∀ j, w.frozen? ⟨p, j, none⟩ = false := fun j => by simp [World.frozen?, e3]
  have g1 : a.tmps.getD 19 undef = _ := e1
  have g2 : a.tmps.getD 102 undef = _ := e4
  refine reg_skip (w' := _) hag hdst (by
    simp only [execOp, hop]
    simp [go_sem, -Array.getD_eq_getD_getElem?, g1, g2, c0, c1, c2, c3, ff]) ⟨L, p, q, vt, _, H.fSP h1 h3⟩
theorem RB.oSQ (H : RB C L p q vt vo d (vals a) w) (hag : Ag RBS a0 a) (h1 : d 10 = true) (h2 : d 8 = true) (hop : o.op = .store 25 (.tmp 20) (.tmp 103)) (hdst : o.dst = none) : o.wp Tryd.prog a w (Aft RBS a0 (RBI C) d 13) Q := by
  obtain ⟨e1, e2, x, y, e3⟩ := H.s_q h1
  have e4 := H.s_x2 h2
  obtain ⟨c0, c1⟩ := cells_blk e3
  have ff : ∀ j, w.frozen? ⟨q, j, none⟩ = false := fun j => by simp [World.frozen?, e3]
  have g1 : a.tmps.getD 20 undef = _ := e1
  have g2 : a.tmps.getD 103 undef = _ := e4
  refine reg_skip (w' := _) hag hdst (by
    simp only [execOp, hop]
    simp [go_sem, -Array.getD_eq_getD_getElem?, g1, g2, c0, c1, ff]) ⟨L, p, q, vt, vo, H.fSQ h1⟩
end
end Go.Proofs.YtemakpjickbmnaaDoor
