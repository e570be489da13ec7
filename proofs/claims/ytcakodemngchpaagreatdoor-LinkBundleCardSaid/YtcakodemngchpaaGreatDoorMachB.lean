/- The machine: instructions that call, return, read or print. The machine: a step. -/
import Derived.Test.YtcakodemngchpaaGreatDoorBase
import Derived.Test.YtcakodemngchpaaGreatDoorRows
import Derived.IntWalk
import Derived.Deep.RegionHeld3
import Derived.Deep.RegionLaw
import Derived.Test.YtcakodemngchpaaGreatDoorMachA
/- The machine: instructions that call, return, read or print. -/
namespace Go.Proofs.YtcakodemngchpaaGreatDoor
open Go.RowKit
set_option linter.unusedSimpArgs false
set_option linter.unusedVariables false

theorem info_call : (Tryz.prog.info? 145).map (fun i => (i.zero, i.size, i.bytes)) = some (some (.pointer none), 1, 8) := by kernel_rfl
/-- A routine more is under way. -/
theorem MRep.push {w W2 w7 : World} {S : Nat → Bool} {bm P : Nat} {cs : List (List Mac)} {s : MS} {vc vm vk vi vo : Value} {bs : List Nat} (h : MRep w S bm P cs s vc vm vk vi vo bs) (nf : Frm) {g n cap : Nat}
    (hb : Below w.heap.size w W2) (hW : W2.heap[w.heap.size]? = some (.cells (carr nf) 148 (0, 0)))
    (hown : w7.ownsRow bm 145 1 (.slice (some ⟨g, 0, none⟩) n cap) n (bs.reverse.flatMap ptrC ++ [.pointer (some ⟨w.heap.size, 0, none⟩)])) (hn : n = bs.length + 1) (hg : W2.grownBy w7 vk.ownBlock) :
    w7.heap[P]? = w.heap[P]? ∧ MRep (w7.setCell ⟨P, 18, none⟩ (.slice (some ⟨g, 0, none⟩) n cap)) S bm P cs { s with calls := nf :: s.calls } vc vm (.slice (some ⟨g, 0, none⟩) n cap) vi vo (w.heap.size :: bs) ∧ Below bm w (w7.setCell ⟨P, 18, none⟩ (.slice (some ⟨g, 0, none⟩) n cap)) := by
  have hl := h.size
  have hvk : ∀ k, vk.ownBlock = some k → bm ≤ k ∧ k < w.heap.size := fun k e => h.rows.row.lt k e
  have hz := hb.size
  have hP7 : w7.heap[P]? = w.heap[P]? := (hg.block P (by omega) (fun e => h.notP (.inr (.inl e.symm)))).trans (hb.block P hl.1)
  have hPb : w7.heap[P]? = some (.cells (marr s vc vm vk vi vo) 152 (0, 0)) := hP7.trans h.blk
  have hkeep : ∀ k, k < W2.heap.size → vk.ownBlock ≠ some k → k ≠ P → (w7.setCell ⟨P, 18, none⟩ (.slice (some ⟨g, 0, none⟩) n cap)).heap[k]? = W2.heap[k]? := fun k h1 h2 h3 => (Below.heap_setCell _ _ _ _ h3).trans (hg.block k h1 (fun e => h2 e.symm))
  have hold : ∀ k, k < w.heap.size → vk.ownBlock ≠ some k → k ≠ P → (w7.setCell ⟨P, 18, none⟩ (.slice (some ⟨g, 0, none⟩) n cap)).heap[k]? = w.heap[k]? := fun k h1 h2 h3 => (hkeep k (by omega) h2 h3).trans (hb.block k h1)
  obtain ⟨k1, k2⟩ := h.elder (w' := w7.setCell ⟨P, 18, none⟩ (.slice (some ⟨g, 0, none⟩) n cap)) (fun k hk => hold k (by omega) (fun e => by have := hvk k e; omega) (by have := h.low; omega))
  have hbel : Below bm w (w7.setCell ⟨P, 18, none⟩ (.slice (some ⟨g, 0, none⟩) n cap)) := ⟨hg.os.trans hb.os, hg.tape.trans hb.tape, hg.output.trans hb.output, by simp [World.setCell]; have := hg.size; omega, fun k hk => hold k (by omega) (fun e => by have := hvk k e; omega) (by have := h.low; omega)⟩
  refine ⟨hP7, ⟨?_, h.regs, ⟨?_, ?_, ?_, ?_, ?_, ?_, h.rows.apart⟩, k1, k2, h.safe, h.low⟩, hbel⟩
  · rw [block_set hPb, marr_set h.regs 1]
    rfl
  · exact own_keep h.rows.mem fun k e hk => hold k hk (fun e2 => by
      obtain ⟨A, hA⟩ := row_type h.rows.mem e
      exact row_not h.rows.row hA (by decide) e2) (fun e2 => h.notP (.inl (by rw [e, e2])))
  · exact own_keep h.rows.out fun k e hk => hold k hk (fun e2 => by
      obtain ⟨A, hA⟩ := row_type h.rows.out e
      exact row_not h.rows.row hA (by decide) e2) (fun e2 => h.notP (.inr (.inr (.inl (by rw [e, e2])))))
  · have hgP : g ≠ P := fun e => by
      obtain ⟨A, hA⟩ := row_type hown (g := g) rfl
      rw [e, hPb] at hA
      injection hA with hA
      injection hA with _ hA
      exact absurd hA (by decide)
    have := own_setCell_other hown (p := ⟨P, 18, none⟩) (by show some g ≠ some P; exact fun e => hgP (Option.some.inj e)) (.slice (some ⟨g, 0, none⟩) n cap)
    rw [List.reverse_cons, List.flatMap_append, List.length_cons, ← hn]
    exact this
  · simp [h.rows.len]
  · intro i f b' h3 h4
    cases i with
    | zero =>
      simp at h3 h4
      subst h3 h4
      exact ⟨hl.2, (hkeep _ (blk_lt hW) (fun e => by have := hvk _ e; omega) (by omega)).trans hW⟩
    | succ i =>
      rw [List.getElem?_cons_succ] at h3 h4
      obtain ⟨h5, h6⟩ := h.rows.each i f b' h3 h4
      obtain ⟨n1, n2, n3, n4⟩ := h.notFrame (List.mem_iff_getElem?.2 ⟨i, h4⟩)
      exact ⟨h5, (hold b' (blk_lt h6) n3 n1).trans h6⟩
  · refine List.nodup_cons.2 ⟨fun hm => ?_, h.rows.once⟩
    obtain ⟨A, _, hA⟩ := h.rows.frame hm
    have := blk_lt hA
    omega
/-- A number more is printed. -/
theorem MRep.print {w W2 w7 : World} {S : Nat → Bool} {bm P : Nat} {cs : List (List Mac)} {s : MS} {vc vm vk vi vo : Value} {bs : List Nat} (h : MRep w S bm P cs s vc vm vk vi vo bs) (x : Int) {g n cap : Nat}
    (hb : Below w.heap.size w W2)
    (hown : w7.ownsRow bm 3 1 (.slice (some ⟨g, 0, none⟩) n cap) n (s.out.flatMap intCells ++ [.int .i64 x])) (hn : n = s.out.length + 1) (hg : W2.grownBy w7 vo.ownBlock) (hat : vo.ownBlock = some g ∨ g = W2.heap.size) :
    w7.heap[P]? = w.heap[P]? ∧ MRep (w7.setCell ⟨P, 22, none⟩ (.slice (some ⟨g, 0, none⟩) n cap)) S bm P cs { s with out := s.out ++ [x] } vc vm vk vi (.slice (some ⟨g, 0, none⟩) n cap) bs ∧ Below bm w (w7.setCell ⟨P, 22, none⟩ (.slice (some ⟨g, 0, none⟩) n cap)) := by
  have hl := h.size
  have hvo : ∀ k, vo.ownBlock = some k → bm ≤ k ∧ k < w.heap.size := fun k e => h.rows.out.lt k e
  have hz := hb.size
  have hP7 : w7.heap[P]? = w.heap[P]? := (hg.block P (by omega) (fun e => h.notP (.inr (.inr (.inl e.symm))))).trans (hb.block P hl.1)
  have hPb : w7.heap[P]? = some (.cells (marr s vc vm vk vi vo) 152 (0, 0)) := hP7.trans h.blk
  have hold : ∀ k, k < w.heap.size → vo.ownBlock ≠ some k → k ≠ P → (w7.setCell ⟨P, 22, none⟩ (.slice (some ⟨g, 0, none⟩) n cap)).heap[k]? = w.heap[k]? := fun k h1 h2 h3 => ((Below.heap_setCell _ _ _ _ h3).trans (hg.block k (by omega) (fun e => h2 e.symm))).trans (hb.block k h1)
  obtain ⟨k1, k2⟩ := h.elder (w' := w7.setCell ⟨P, 22, none⟩ (.slice (some ⟨g, 0, none⟩) n cap)) (fun k hk => hold k (by omega) (fun e => by have := hvo k e; omega) (by have := h.low; omega))
  have hbel : Below bm w (w7.setCell ⟨P, 22, none⟩ (.slice (some ⟨g, 0, none⟩) n cap)) := ⟨hg.os.trans hb.os, hg.tape.trans hb.tape, hg.output.trans hb.output, by simp [World.setCell]; have := hg.size; omega, fun k hk => hold k (by omega) (fun e => by have := hvo k e; omega) (by have := h.low; omega)⟩
  refine ⟨hP7, ⟨?_, h.regs, ⟨?_, ?_, ?_, h.rows.len, ?_, h.rows.once, ?_⟩, k1, k2, h.safe, h.low⟩, hbel⟩
  · rw [block_set hPb, marr_set h.regs 5]
    rfl
  · exact own_keep h.rows.mem fun k e hk => hold k hk (fun e2 => h.rows.apart k e e2) (fun e2 => h.notP (.inl (by rw [e, e2])))
  · have hgP : g ≠ P := fun e => by
      obtain ⟨A, hA⟩ := row_type hown (g := g) rfl
      rw [e, hPb] at hA
      injection hA with hA
      injection hA with _ hA
      exact absurd hA (by decide)
    have := own_setCell_other hown (p := ⟨P, 22, none⟩) (by show some g ≠ some P; exact fun e => hgP (Option.some.inj e)) (.slice (some ⟨g, 0, none⟩) n cap)
    rw [List.flatMap_append, List.length_append, List.length_singleton, ← hn]
    exact this
  · exact own_keep h.rows.row fun k e hk => hold k hk (fun e2 => by
      obtain ⟨A, hA⟩ := row_type h.rows.row e
      exact row_not h.rows.out hA (by decide) e2) (fun e2 => h.notP (.inr (.inl (by rw [e, e2]))))
  · intro i f b' h3 h4
    obtain ⟨h5, h6⟩ := h.rows.each i f b' h3 h4
    obtain ⟨n1, n2, n3, n4⟩ := h.notFrame (List.mem_iff_getElem?.2 ⟨i, h4⟩)
    exact ⟨h5, (hold b' (blk_lt h6) n4 n1).trans h6⟩
  · intro k e e2
    obtain rfl : g = k := Option.some.inj e2
    rcases hat with h1 | h1
    · exact h.rows.apart g e h1
    · have := h.rows.mem.lt g e
      omega
/-- The routine that is under way ends. -/
theorem MRep.pop {w : World} {S : Nat → Bool} {bm P b m : Nat} {cs : List (List Mac)} {s : MS} {vc vm vi vo : Value} {bs : List Nat} {c : Frm} {r : List Frm} {A : Option Addr} {nk : Nat} (h : MRep w S bm P cs s vc vm (.slice A m nk) vi vo (b :: bs)) (hc : s.calls = c :: r) :
    MRep (w.setCell ⟨P, 18, none⟩ (.slice A bs.length nk)) S bm P cs { s with calls := r } vc vm (.slice A bs.length nk) vi vo bs := by
  obtain ⟨g, cap, e, _, _, _, _⟩ := own_some h.rows.row (by simp)
  injection e with e1 e2 e3
  subst e1 e2 e3
  have hl := h.size
  have hP := h.blk
  have hlow := h.low
  have hold : ∀ k, k ≠ P → (w.setCell ⟨P, 18, none⟩ (.slice (some ⟨g, 0, none⟩) bs.length nk)).heap[k]? = w.heap[k]? := fun k h3 => Below.heap_setCell _ _ _ _ h3
  obtain ⟨k1, k2⟩ := h.elder (w' := w.setCell ⟨P, 18, none⟩ (.slice (some ⟨g, 0, none⟩) bs.length nk)) (fun k hk => hold k (by omega))
  refine ⟨?_, h.regs, ⟨?_, ?_, ?_, ?_, ?_, (List.nodup_cons.1 h.rows.once).2, h.rows.apart⟩, k1, k2, h.safe, h.low⟩
  · rw [block_set hP, marr_set h.regs 1]
    rfl
  · exact own_keep h.rows.mem fun k e hk => hold k (fun e2 => h.notP (.inl (by rw [e, e2])))
  · exact own_keep h.rows.out fun k e hk => hold k (fun e2 => h.notP (.inr (.inr (.inl (by rw [e, e2])))))
  · have h1 := own_setCells (vs := []) (o := 0) (m := bs.length) h.rows.row (by simp) (by simp) (bs.reverse.flatMap ptrC) (by
      simp only [List.length_nil, List.take_zero, List.drop_zero, List.nil_append, Nat.add_zero, Nat.mul_one]
      rw [List.reverse_cons, List.flatMap_append]
      apply List.take_left'
      rw [flat_length ptrC 1 (fun _ => rfl)]
      simp)
    have h2 : w.ownsRow bm 145 1 (.slice (some ⟨g, 0, none⟩) bs.length nk) bs.length (bs.reverse.flatMap ptrC) := h1
    exact own_keep h2 fun k e hk => hold k (fun e2 => h.notP (.inr (.inl (by rw [← e2]; exact e))))
  · have := h.rows.len
    rw [hc] at this
    simpa using this
  · intro i f b' h3 h4
    obtain ⟨h5, h6⟩ := h.rows.each (i + 1) f b' (by rw [hc, List.getElem?_cons_succ]; exact h3) (by rw [List.getElem?_cons_succ]; exact h4)
    exact ⟨h5, (hold b' (fun e => by
      have := (h.notFrame (b := b') (List.mem_cons_of_mem _ (List.mem_iff_getElem?.2 ⟨i, h4⟩))).1
      exact this e)).trans h6⟩

theorem zeroCall (n : Int) (h : 0 ≤ n) : Tryz.zeroCells148.setIfInBounds 0 (.int .i64 n) = carr ⟨n.toNat, 0, frame0⟩ := by
  have e : Tryz.zeroCells148 = carr ⟨0, 0, frame0⟩ := by kernel_rfl
  rw [e]
  unfold carr
  rw [List.setIfInBounds_toArray, List.set_cons_zero]
  simp only []
  rw [show ((n.toNat : Nat) : Int) = n from by omega]
set_option maxRecDepth 100000 in
set_option maxHeartbeats 4000000 in
theorem speaks_calls {w : World} {S : Nat → Bool} {bm P b : Nat} {cs : List (List Mac)} {s : MS} {vc vm vk vi vo : Value} {bs : List Nat} {c : Frm} {r : List Frm} (h : MRep w S bm P cs s vc vm vk vi vo (b :: bs)) (hc : s.calls = c :: r) (hfr : c.fr.length = 120)
    (hdeep : r.length + 1 ≤ 30) (hout : s.out.length ≤ 200)
    (op n : Int) (kd ka kb : Nat) (hd : kd < 16) (ha : ka < 16) (hb : kb < 16) (hop : op = 44 ∨ op = 45 ∨ op = 46 ∨ op = 47) (hw : op = 44 → 0 ≤ n) (R : Ending → World → Prop)
    (hR : ∀ w' vk' vi' vo' bs', Below bm w w' → MRep w' S bm P cs (speaksM ⟨op, kd, ka, kb, n⟩ c r s) vc vm vk' vi' vo' bs' → R (.returned (.tuple #[])) w') :
    Calls Tryz.prog 98 #[.pointer (some ⟨P, 0, none⟩), .agg #[.int .i64 op, .int .i64 (kd : Int), .int .i64 (ka : Int), .int .i64 (kb : Int), .int .i64 n]] w R := by
  obtain ⟨W0, hW0⟩ : ∃ W0, W0 = w.alloc (Obj.cells #[.int .i64 op, .int .i64 (kd : Int), .int .i64 (ka : Int), .int .i64 (kb : Int), .int .i64 n] 54) := ⟨_, rfl⟩
  have hb0 : Below w.heap.size w W0 := by subst hW0; exact bl0
  have hM : W0.heap[w.heap.size]? = some (.cells #[.int .i64 op, .int .i64 (kd : Int), .int .i64 (ka : Int), .int .i64 (kb : Int), .int .i64 n] 54 (0, 0)) := by subst hW0; exact heap_alloc_new _ _
  have h0 := h.below hb0 (Nat.le_refl _)
  have hbw := hb0.mono h.size.2
  have HR : Hid (∀ w' vk' vi' vo' bs', Below bm W0 w' → MRep w' S bm P cs (speaksM ⟨op, kd, ka, kb, n⟩ c r s) vc vm vk' vi' vo' bs' → R (.returned (.tuple #[])) w') := Lib.hid fun w' vk' vi' vo' bs' h1 h2 => hR w' vk' vi' vo' bs' (hbw.trans h1) h2
  have HW0 := Lib.hid hW0.symm
  have HM := Lib.hid hM
  have m0 : W0.cell? ⟨w.heap.size, 0, none⟩ = some (.int .i64 op) := by rw [blk_cell hM]; rfl
  have m1 : W0.cell? ⟨w.heap.size, 1, none⟩ = some (.int .i64 (kd : Int)) := by rw [blk_cell hM]; rfl
  have m2 : W0.cell? ⟨w.heap.size, 2, none⟩ = some (.int .i64 (ka : Int)) := by rw [blk_cell hM]; rfl
  have m4 : W0.cell? ⟨w.heap.size, 4, none⟩ = some (.int .i64 n) := by rw [blk_cell hM]; rfl
  have hlM : w.heap.size < W0.heap.size := blk_lt hM
  have hPM : P < w.heap.size := h.size.1
  have hlP : P < W0.heap.size := h0.size.1
  have C := h0.cells
  have z := C.free
  have ck := C.calls
  have ci := C.inp
  have co := C.out
  have ce := C.over
  have ct := C.st
  have cv := C.val
  have cd := C.regs kd hd
  have ca0 := C.regs ka ha
  obtain ⟨ra, hra⟩ : ∃ x, s.regs.getD ka 0 = x := ⟨_, rfl⟩
  have ca : W0.cell? ⟨P, 1 + ka, none⟩ = some (.int .i64 ra) := by rw [ca0, hra]
  have Hra := Lib.hid hra
  obtain ⟨r0, hr0⟩ : ∃ x, s.regs.getD 0 0 = x := ⟨_, rfl⟩
  have c0 : W0.cell? ⟨P, 1, none⟩ = some (.int .i64 r0) := by rw [← hr0]; exact C.regs 0 (by decide)
  have Hr0 := Lib.hid hr0
  have i1 : (kd : Int) < 16 := by omega
  have i2 : (ka : Int) < 16 := by omega
  obtain ⟨Ak, nk, hvk⟩ := own_slice h0.rows.row
  obtain ⟨Ao, no, hvo⟩ := own_slice h0.rows.out
  obtain ⟨Ai, ni, hvi, hil, hic, _⟩ := h0.input.cases_
  have hlen : (b :: bs).length = r.length + 1 := by rw [h0.rows.len, hc]; rfl
  rw [hlen] at hvk
  subst hvk hvo hvi
  have H0 := Lib.hid h0
  have Hlen := Lib.hid hlen
  clear hW0 hM h h0 hR hbw hb0 C ca0 hra hr0 hlen
  go_enter Tryz.func98, Tryz.ntmps98
  go_upto_region 1 with fail
  rw [HW0.out]
  obtain ⟨iC, hiC, zC0, zC1, zC2⟩ := info_parts info_call
  rcases hop with rfl | rfl | rfl | rfl
  · have hn0 : 0 ≤ n := hw rfl
    clear hw cd ce ct cv co ci c0 Hr0 hil hic
    by_cases h30 : r.length + 1 = 30
    · have hmv : speaksM ⟨44, kd, ka, kb, n⟩ c r s = s.ends 4 := if_pos h30
      have h30b : ((r.length : Int) + 1 == 30) = true := by simp; omega
      have h30c : (r.length : Int) + 1 = 30 := by omega
      go_wp2_with fail
      refine ends_calls H0.out 4 _ (fun w1 hb1 h1 => ?_)
      have Hf := Lib.hid (HR.out w1 _ _ _ _ hb1 (by rw [hmv]; exact h1))
      clear hb1 h1 hmv
      go_wp2
      go_end0
      exact Hf.out
    · have hmv : speaksM ⟨44, kd, ka, kb, n⟩ c r s = { s with calls := ⟨n.toNat, 0, frame0⟩ :: c :: r } := if_neg h30
      have h30b : ((r.length : Int) + 1 == 30) = false := by simp; omega
      go_wp2_with fail
      have hbW1 : Below W0.heap.size W0 (W0.alloc (Obj.cells (Tryz.zeroCells148.setIfInBounds 0 (.int .i64 n)) 148)) := bl0
      have hN : (W0.alloc (Obj.cells (Tryz.zeroCells148.setIfInBounds 0 (.int .i64 n)) 148)).heap[W0.heap.size]? = some (.cells (carr ⟨n.toNat, 0, frame0⟩) 148 (0, 0)) := by
        rw [← zeroCall n hn0]
        exact heap_alloc_new _ _
      have hown1 : (((W0.alloc (Obj.cells (Tryz.zeroCells148.setIfInBounds 0 (.int .i64 n)) 148)).alloc (Obj.cells #[.pointer (some ⟨W0.heap.size, 0, none⟩)] 145)).drew).ownsRow bm 145 1 (.slice Ak (r.length + 1) nk) (r.length + 1) ((b :: bs).reverse.flatMap ptrC) := by
        have := H0.out.rows.row
        rw [Hlen.out] at this
        exact ((own_below (own_below this hbW1) ((Below.refl _ _).alloc (Nat.le_refl _) _))).drew
      have HPush : Hid (∀ g cap w7, w7.ownsRow bm 145 1 (.slice (some ⟨g, 0, none⟩) (r.length + 1 + 1) cap) (r.length + 1 + 1) ((b :: bs).reverse.flatMap ptrC ++ [.pointer (some ⟨W0.heap.size, 0, none⟩)]) → (((W0.alloc (Obj.cells (Tryz.zeroCells148.setIfInBounds 0 (.int .i64 n)) 148)).alloc (Obj.cells #[.pointer (some ⟨W0.heap.size, 0, none⟩)] 145)).drew).grownBy w7 (Value.slice Ak (r.length + 1) nk).ownBlock →
          (w7.cell? ⟨P, 18, none⟩ = some (.slice Ak (r.length + 1) nk) ∧ w7.cell? ⟨w.heap.size, 4, none⟩ = some (.int .i64 n)) ∧ P < w7.heap.size ∧ w7.frozen? ⟨P, 18, none⟩ = false ∧ R (.returned (.tuple #[])) (w7.setCell ⟨P, 18, none⟩ (.slice (some ⟨g, 0, none⟩) (r.length + 1 + 1) cap))) := Lib.hid fun g cap w7 h1 h2 => by
        have hbW2 : Below W0.heap.size W0 (((W0.alloc (Obj.cells (Tryz.zeroCells148.setIfInBounds 0 (.int .i64 n)) 148)).alloc (Obj.cells #[.pointer (some ⟨W0.heap.size, 0, none⟩)] 145)).drew) := ((hbW1.alloc (by simp) _)).drew
        have hN2 : ((((W0.alloc (Obj.cells (Tryz.zeroCells148.setIfInBounds 0 (.int .i64 n)) 148)).alloc (Obj.cells #[.pointer (some ⟨W0.heap.size, 0, none⟩)] 145)).drew)).heap[W0.heap.size]? = some (.cells (carr ⟨n.toNat, 0, frame0⟩) 148 (0, 0)) := blk_drew (blk_alloc hN _)
        obtain ⟨h3, h4, h5⟩ := H0.out.push ⟨n.toNat, 0, frame0⟩ hbW2 hN2 h1 (by rw [Hlen.out]) h2
        have hP7 := h3.trans H0.out.blk
        have hM7 : w7.heap[w.heap.size]? = W0.heap[w.heap.size]? := (h2.block _ (by simp; omega) (fun e => row_not H0.out.rows.row HM.out (by decide) e.symm)).trans (hbW2.block _ hlM)
        rw [← hc] at hmv
        exact ⟨⟨(World.cell?_of_block h3).trans ck, (World.cell?_of_block hM7).trans m4⟩, blk_lt hP7, by simp [World.frozen?, hP7], HR.out _ _ _ _ _ h5 (by rw [hmv]; exact h4)⟩
      have Hown1 := Lib.hid hown1
      have hsz := H0.out.size.2
      clear hbW1 hN hown1 hmv
      go_region_law (first | (refine step_append_lies _ rfl (.tmp 20) (.tmp 25) _ rfl bm 145 iC _ 1 8 Tryz.underlying149 hiC zC0 zC1 zC2 rfl (by decide) _ _ _ (by rfl) Hown1.out ⟨W0.heap.size + 1, 0, none⟩ 1 1 [.pointer (some ⟨W0.heap.size, 0, none⟩)] (by rfl) (by rfl) (World.news_of_block (cs := #[.pointer (some ⟨W0.heap.size, 0, none⟩)]) (t := 145) (fr := (0, 0)) (by have := heap_alloc_new (W0.alloc (Obj.cells (Tryz.zeroCells148.setIfInBounds 0 (.int .i64 n)) 148)) (Obj.cells #[.pointer (some ⟨W0.heap.size, 0, none⟩)] 145); exact blk_drew (by simpa using this))) (by simp [Value.oneCell']) (by omega) (by unfold maxLen; omega) (by omega) (by simp; omega) (W0.heap.size + 2) (by simp) ?_; intro g cap w7 hown7 hgrow7 hat7 hlt7; obtain ⟨hS7, hl7, hf7, hr7⟩ := HPush.out g cap w7 hown7 hgrow7; obtain ⟨s7, _⟩ := id hS7; have Hr7 := Lib.hid hr7; clear hown7 hgrow7 hat7 hlt7 hr7))
      all_goals
        go_wp2
        go_end0
        exact Hr7.out
  · clear hw cd ca ci co hil hic
    have hbsl : bs.length = r.length := by have := Hlen.out; simpa using this
    have hpop := H0.out.pop hc
    rw [hbsl] at hpop
    have hrow := H0.out.rows.row
    rw [Hlen.out] at hrow
    obtain ⟨g, cap, e, _, _, hnc, _⟩ := own_some hrow (by omega)
    injection e with e1 _ e3
    subst e1 e3
    have k1 : (r.length : Int) ≤ (nk : Int) := by omega
    have k2 : (0 : Int) ≤ (r.length : Int) := by omega
    have hlow := H0.out.low
    have h1 := hpop.drew
    have hb1 : Below bm W0 (W0.setCell ⟨P, 18, none⟩ (.slice (some ⟨g, 0, none⟩) r.length nk)).drew := ((Below.refl bm W0).setCell (p := ⟨P, 18, none⟩) hlow _).drew
    have H1 := Lib.hid h1
    have Hb1 := Lib.hid hb1
    clear hrow hpop h1 hb1 hnc
    by_cases hr : r = []
    · subst hr
      simp only [List.length_nil] at *
      have hmv : speaksM ⟨45, kd, ka, kb, n⟩ c [] s = ({ s with calls := [], val := r0 } : MS).ends 0 := by rw [← Hr0.out]; rfl
      have h2 : MRep ((W0.setCell ⟨P, 18, none⟩ (.slice (some ⟨g, 0, none⟩) 0 nk)).drew.setCell ⟨P, 21, none⟩ (.int .i64 r0)) S bm P cs { s with calls := [], val := r0 } vc vm (.slice (some ⟨g, 0, none⟩) 0 nk) (.slice Ai s.inp.length ni) (.slice Ao s.out.length no) bs := H1.out.put rfl rfl rfl H1.out.regs H1.out.inp (by rw [marr_set H1.out.regs 4]; rfl)
      have H2 := Lib.hid h2
      have Hb2 := Lib.hid (Hb1.out.setCell (p := ⟨P, 21, none⟩) hlow (.int .i64 r0))
      clear h2
      go_wp2
      go_region
      go_wp2_with fail
      refine ends_calls H2.out 0 _ (fun w3 hb3 h3 => ?_)
      have Hf := Lib.hid (HR.out _ _ _ _ _ (Hb2.out.trans hb3) (by rw [hmv]; exact h3))
      clear hb3 h3 hmv
      go_wp2
      go_end0
      exact Hf.out
    · have hmv : speaksM ⟨45, kd, ka, kb, n⟩ c r s = { s with calls := r } := if_neg hr
      have hr2 : ((r.length : Int) == 0) = false := by
        cases r with
        | nil => exact absurd rfl hr
        | cons => simp; omega
      have Hf := Lib.hid (HR.out _ _ _ _ _ Hb1.out (by rw [hmv]; exact H1.out))
      clear hmv
      go_wp2
      go_region
      all_goals
        go_wp2
        go_end0
        exact Hf.out
  · clear hw ce ct cv co ck c0 Hr0 ca
    have hlow := H0.out.low
    cases hin : s.inp with
    | nil =>
      have hmv : speaksM ⟨46, kd, ka, kb, n⟩ c r s = s.put kd (-1) := by
        show (match s.inp with | [] => s.put kd (-1) | x :: l => { s.put kd x with inp := l }) = _
        rw [hin]
      have ci2 : W0.cell? ⟨P, 19, none⟩ = some (.slice Ai 0 ni) := by rw [ci, hin]; rfl
      have Hf := Lib.hid (HR.out _ _ _ _ _ ((Below.refl bm W0).setCell (p := ⟨P, 1 + kd, none⟩) hlow (.int .i64 (-1))).drew (by rw [hmv]; exact (H0.out.setReg hd (-1)).drew))
      clear hmv ci
      go_wp2
      go_region
      all_goals
        go_wp2
        go_end0
        exact Hf.out
    | cons x l =>
      have hmv : speaksM ⟨46, kd, ka, kb, n⟩ c r s = { s.put kd x with inp := l } := by
        show (match s.inp with | [] => s.put kd (-1) | x :: l => { s.put kd x with inp := l }) = _
        rw [hin]
      have hlen : s.inp.length = l.length + 1 := by rw [hin]; rfl
      obtain ⟨b1, o1, hA, hb1, hx1⟩ := H0.out.input.int_at (k := 0) (by omega)
      subst hA
      have h1 := (H0.out.setReg hd (-1)).drew
      have hb2 : Below bm W0 (W0.setCell ⟨P, 1 + kd, none⟩ (.int .i64 (-1))).drew := ((Below.refl bm W0).setCell (p := ⟨P, 1 + kd, none⟩) hlow _).drew
      have hx2 : W0.cell? ⟨b1, o1, none⟩ = some (.int .i64 x) := by simpa [hin] using hx1
      have hbP : b1 ≠ P := by omega
      have hlb1 : b1 < W0.heap.size := by have := H0.out.size.2; omega
      have hMP : w.heap.size ≠ P := by omega
      have h2 := h1.setReg hd x
      have hreg : (s.put kd (-1)).put kd x = s.put kd x := by simp [MS.put]
      rw [hreg] at h2
      have hinp : ∀ o', (0 < l.length → o' = o1 + 1) → rpInt.SL (only ((W0.setCell ⟨P, 1 + kd, none⟩ (.int .i64 (-1))).drew.setCell ⟨P, 1 + kd, none⟩ (.int .i64 x)) S) bm l (.slice (some ⟨b1, o', none⟩) l.length (ni - 1)) := fun o' ho => by
        have := h2.inp
        rw [show (s.put (kd : Int) x).inp = x :: l from hin] at this
        have h3 := this.drop_ (k := 1) (by simp) o' (fun h => by
          have := ho (by simpa using h)
          rw [this]; rfl)
        have e1 : s.inp.length - 1 = l.length := by omega
        rw [e1] at h3
        simpa using h3
      have h3 : ∀ o', (0 < l.length → o' = o1 + 1) → MRep (((W0.setCell ⟨P, 1 + kd, none⟩ (.int .i64 (-1))).drew.setCell ⟨P, 1 + kd, none⟩ (.int .i64 x)).setCell ⟨P, 19, none⟩ (.slice (some ⟨b1, o', none⟩) l.length (ni - 1))).drew S bm P cs { s.put kd x with inp := l } vc vm (.slice Ak (r.length + 1) nk) (.slice (some ⟨b1, o', none⟩) l.length (ni - 1)) (.slice Ao s.out.length no) (b :: bs) := fun o' ho =>
        (h2.put (s' := { s.put kd x with inp := l }) rfl rfl rfl h2.regs (hinp o' ho) (by rw [marr_set h2.regs 2]; rfl)).drew
      have Hf : Hid (∀ o', (0 < l.length → o' = o1 + 1) → R (.returned (.tuple #[])) (((W0.setCell ⟨P, 1 + kd, none⟩ (.int .i64 (-1))).drew.setCell ⟨P, 1 + kd, none⟩ (.int .i64 x)).setCell ⟨P, 19, none⟩ (.slice (some ⟨b1, o', none⟩) l.length (ni - 1))).drew) := Lib.hid fun o' ho => HR.out _ _ _ _ _ (((hb2.setCell (p := ⟨P, 1 + kd, none⟩) hlow _).setCell (p := ⟨P, 19, none⟩) hlow _).drew) (by rw [hmv]; exact h3 o' ho)
      have ci2 : W0.cell? ⟨P, 19, none⟩ = some (.slice (some ⟨b1, o1, none⟩) (l.length + 1) ni) := by rw [ci, hlen]
      have n1 : (1 : Int) ≤ (ni : Int) := by omega
      have n2 : ((l.length : Int) + 1) ≤ (ni : Int) := by omega
      have n3 : l.length + 1 ≤ ni := by omega
      have n4 : (0 : Int) < (l.length : Int) + 1 := by omega
      clear h1 hb2 hx1 h2 hreg hinp h3 hmv ci hlen hic hil
      by_cases hni : ni = 1
      · have hl0 : l.length = 0 := by omega
        subst hni
        have Hf2 := Lib.hid (Hf.out o1 (by omega))
        simp only [hl0] at *
        go_wp2
        go_region
        go_wp2
        go_region
        all_goals
          go_wp2
          go_end0
          exact Hf2.out
      · have hni2 : (ni : Int) - 1 ≠ 0 := by omega
        have hni3 : ni - 1 ≠ 0 := by omega
        have Hf2 := Lib.hid (Hf.out (o1 + 1) (fun _ => rfl))
        go_wp2
        go_region
        go_wp2
        go_region
        all_goals
          go_wp2
          go_end0
          exact Hf2.out
  · clear hw cd ce ct cv ci ck c0 Hr0 hil hic
    have hsz := H0.out.size.2
    by_cases h200 : s.out.length = 200
    · have hmv : speaksM ⟨47, kd, ka, kb, n⟩ c r s = s.ends 5 := if_pos h200
      have h3b : ((s.out.length : Int) == 200) = true := by simp; omega
      have h3c : (s.out.length : Int) = 200 := by omega
      go_wp2_with fail
      refine ends_calls H0.out 5 _ (fun w1 hb1 h1 => ?_)
      have Hf := Lib.hid (HR.out w1 _ _ _ _ hb1 (by rw [hmv]; exact h1))
      clear hb1 h1 hmv
      go_wp2
      go_end0
      exact Hf.out
    · have hmv : speaksM ⟨47, kd, ka, kb, n⟩ c r s = { s with out := s.out ++ [ra] } := by rw [← Hra.out]; exact if_neg h200
      have h3b : ((s.out.length : Int) == 200) = false := by simp; omega
      have hown1 : (W0.alloc (Obj.cells #[.int .i64 ra] 3)).drew.ownsRow bm 3 1 (.slice Ao s.out.length no) s.out.length (s.out.flatMap intCells) := (own_below H0.out.rows.out ((Below.refl _ _).alloc (Nat.le_refl _) _)).drew
      have HPush : Hid (∀ g cap w7, w7.ownsRow bm 3 1 (.slice (some ⟨g, 0, none⟩) (s.out.length + 1) cap) (s.out.length + 1) (s.out.flatMap intCells ++ [.int .i64 ra]) → (W0.alloc (Obj.cells #[.int .i64 ra] 3)).drew.grownBy w7 (Value.slice Ao s.out.length no).ownBlock → ((Value.slice Ao s.out.length no).ownBlock = some g ∨ g = W0.heap.size + 1) →
          w7.cell? ⟨P, 22, none⟩ = some (.slice Ao s.out.length no) ∧ P < w7.heap.size ∧ w7.frozen? ⟨P, 22, none⟩ = false ∧ w7.cell? ⟨P, 1 + ka, none⟩ = some (.int .i64 ra) ∧ w7.cell? ⟨w.heap.size, 2, none⟩ = some (.int .i64 (ka : Int)) ∧ R (.returned (.tuple #[])) (w7.setCell ⟨P, 22, none⟩ (.slice (some ⟨g, 0, none⟩) (s.out.length + 1) cap))) := Lib.hid fun g cap w7 h1 h2 h6 => by
        have hbW2 : Below W0.heap.size W0 (W0.alloc (Obj.cells #[.int .i64 ra] 3)).drew := ((Below.refl _ _).alloc (Nat.le_refl _) _).drew
        obtain ⟨h3, h4, h5⟩ := H0.out.print ra hbW2 h1 rfl h2 (by simpa using h6)
        have hP7 := h3.trans H0.out.blk
        have hM7 : w7.heap[w.heap.size]? = W0.heap[w.heap.size]? := (h2.block _ (by simp; omega) (fun e => row_not H0.out.rows.out HM.out (by decide) e.symm)).trans (hbW2.block _ hlM)
        exact ⟨(World.cell?_of_block h3).trans co, blk_lt hP7, by simp [World.frozen?, hP7], (World.cell?_of_block h3).trans ca, (World.cell?_of_block hM7).trans m2, HR.out _ _ _ _ _ h5 (by rw [hmv]; exact h4)⟩
      have Hown1 := Lib.hid hown1
      obtain ⟨iI, hiI, zI0, zI1, zI2⟩ := info_parts info_int3
      clear hown1 hmv
      go_wp2_with fail
      go_region_law (first | (refine step_append_lies _ rfl (.tmp 112) (.tmp 120) _ rfl bm 3 iI _ 1 8 Tryz.underlying31 hiI zI0 zI1 zI2 rfl (by decide) _ _ _ (by rfl) Hown1.out ⟨W0.heap.size, 0, none⟩ 1 1 [.int .i64 ra] (by rfl) (by rfl) (World.news_of_block (cs := #[.int .i64 ra]) (t := 3) (fr := (0, 0)) (blk_drew (heap_alloc_new _ _))) (by simp [Value.oneCell']) (by omega) (by unfold maxLen; omega) (by omega) (by simp; omega) (W0.heap.size + 1) (by simp) ?_; intro g cap w7 hown7 hgrow7 hat7 hlt7; obtain ⟨s7, hl7, hf7, t7, u7, hr7⟩ := HPush.out g cap w7 hown7 hgrow7 hat7; have Hr7 := Lib.hid hr7; clear hown7 hgrow7 hat7 hlt7 hr7))
      all_goals
        go_wp2
        go_end0
        exact Hr7.out
end Go.Proofs.YtcakodemngchpaaGreatDoor

/- The machine: a step. -/
namespace Go.Proofs.YtcakodemngchpaaGreatDoor
open Go.RowKit
set_option linter.unusedSimpArgs false
set_option linter.unusedVariables false

theorem below_undrew {B : Nat} {w w' : World} (h : Below B w.drew w') : Below B w w' := ⟨h.os, h.tape, h.output, h.size, h.block⟩
theorem row_last {w : World} {bm : Nat} {T : TypeId} {A : Option Addr} {n cap b : Nat} {bs : List Nat} (h : w.ownsRow bm T 1 (.slice A n cap) n ((b :: bs).reverse.flatMap ptrC)) (hn : n = bs.length + 1) : ∃ g, A = some ⟨g, 0, none⟩ ∧ n ≤ cap ∧ g < w.heap.size ∧ w.cell? ⟨g, bs.length, none⟩ = some (.pointer (some ⟨b, 0, none⟩)) := by
  obtain ⟨h1, h2⟩ := h
  rcases h2 with ⟨h2, h3⟩ | ⟨g, cap', cur, hv, hg, hh, hnc, hcm, hcs, htk⟩
  · omega
  · injection hv with e1 _ e3
    subst e1 e3
    refine ⟨g, rfl, hnc, blk_lt hh, ?_⟩
    rw [blk_cell hh]
    have hf := Rp.flat_get ptrC 1 (fun _ => rfl) (b :: bs).reverse bs.length 0 b (by simp) (by omega)
    rw [← htk, Nat.add_zero, List.getElem?_take] at hf
    split at hf
    · rw [Array.getElem?_toList, Nat.mul_one] at hf
      rw [hf]; rfl
    · cases hf
theorem MRep.setSteps {w : World} {S : Nat → Bool} {bm P : Nat} {cs : List (List Mac)} {s : MS} {vc vm vk vi vo : Value} {bs : List Nat} (h : MRep w S bm P cs s vc vm vk vi vo bs) :
    MRep (w.setCell ⟨P, 23, none⟩ (.int .i64 ((s.steps : Int) + 1))) S bm P cs { s with steps := s.steps + 1 } vc vm vk vi vo bs :=
  h.put rfl rfl rfl h.regs h.inp (by rw [marr_set h.regs 6]; rfl)
theorem carr_pc {c : Frm} : (carr c).setIfInBounds 1 (.int .i64 ((c.pc : Int) + 1)) = carr ⟨c.rt, c.pc + 1, c.fr⟩ := by
  unfold carr
  rw [List.setIfInBounds_toArray, List.set_cons_succ, List.set_cons_zero]
  rfl
theorem carr_to {c : Frm} (k : Nat) : (carr c).setIfInBounds 1 (.int .i64 (k : Int)) = carr ⟨c.rt, k, c.fr⟩ := by
  unfold carr
  rw [List.setIfInBounds_toArray, List.set_cons_succ, List.set_cons_zero]
theorem codes_cell {w : World} {B : Nat} {cs : List (List Mac)} {A : Option Addr} {n cap k : Nat} (h : rpMac.slice.SL w B cs (.slice A n cap)) (hk : k < cs.length) : ∃ b off v, A = some ⟨b, off, none⟩ ∧ b < B ∧ w.cell? ⟨b, off + k, none⟩ = some v ∧ rpMac.SL w B (cs.getD k []) v := by
  obtain ⟨b, off, cl, hA, hb, ⟨v, hcl, hr⟩, hcs⟩ := h.at_ (List.getElem?_eq_getElem hk)
  subst hcl
  refine ⟨b, off, v, hA, hb, ?_, ?_⟩
  · have := hcs 0 v rfl
    simpa [Rp.slice] using this
  · rw [List.getD_eq_getElem?_getD, List.getElem?_eq_getElem hk]
    exact hr
set_option maxRecDepth 100000 in
set_option maxHeartbeats 8000000 in
theorem step_calls {w : World} {S : Nat → Bool} {bm P : Nat} {cs : List (List Mac)} {s : MS} {vc vm vk vi vo : Value} {bs : List Nat} (h : MRep w S bm P cs s vc vm vk vi vo bs) (hi : MInv cs s) (hok : CodesOk cs) {c : Frm} {r : List Frm} (hc : s.calls = c :: r) (hst : s.steps < 900000) (R : Ending → World → Prop)
    (hR : ∀ w' vk' vi' vo' bs', Below bm w w' → MRep w' S bm P cs (stepM cs s) vc vm vk' vi' vo' bs' → R (.returned (.tuple #[.int .i64 (c.rt : Int), .int .i64 (c.pc : Int)])) w') :
    Calls Tryz.prog 71 #[.pointer (some ⟨P, 0, none⟩)] w R := by
  have hf : FrmOk cs c := hi.each c (by rw [hc]; simp)
  obtain ⟨b, bs, rfl⟩ : ∃ b bs', bs = b :: bs' := by
    cases bs with
    | nil => have := h.rows.len; rw [hc] at this; simp at this
    | cons b bs' => exact ⟨b, bs', rfl⟩
  have hlen : bs.length = r.length := by have := h.rows.len; rw [hc] at this; simpa using this
  have hdeep : r.length + 1 ≤ 30 := by have := hi.deep; rw [hc] at this; simpa using this
  obtain ⟨Ak, nk, hvk⟩ := own_slice h.rows.row
  subst hvk
  obtain ⟨gk, hA, hcap, hgk, hlast⟩ := row_last h.rows.row rfl
  subst hA
  rw [hlen] at hlast
  rw [show (b :: bs).length = r.length + 1 from by simp [hlen]] at hcap
  have ck := h.cells.calls
  rw [show (b :: bs).length = r.length + 1 from by simp [hlen]] at ck
  have t0 := (h.top hc).rt
  have t1 := (h.top hc).pc
  have hlb := (h.top hc).lt
  have sz1 := h.size.1
  have i1 : (r.length : Int) < (r.length : Int) + 1 := by omega
  have i0 : (0 : Int) ≤ (r.length : Int) := by omega
  have i2 : (r.length : Int) ≤ 29 := by omega
  have Hh := Lib.hid h
  have Hlen := Lib.hid hlen
  have HR := Lib.hid hR
  clear h hlen hR
  go_enter Tryz.func71, Tryz.ntmps71
  go_upto_region 1 with fail
  go_quiet (fail)
  go_wp2_with fail
  go_quiet (fail)
  generalize hw2 : World.drewN (World.drewN w _) _ = w2 at *
  have hq0 : Below w.heap.size w w2 := by rw [← hw2]; exact below_drewN (below_drewN (Below.refl _ _) _) _
  have h := Hh.out.below hq0 (Nat.le_refl _)
  have hbw := Lib.hid (hq0.mono Hh.out.size.2)
  clear hw2 hq0 ck t0 t1 hlb sz1 hlast hgk
  have C := h.cells
  have T := h.top hc
  obtain ⟨Ac, nc, hvc, _, hcc, hcods⟩ := h.codes.cases_
  obtain ⟨b1, o1, v1, hA, hb1, q1, hcode⟩ := codes_cell hcods hf.rt
  subst hA
  obtain ⟨A2, n2, rfl, _, hcc2, hcode⟩ := hcode.cases_
  obtain ⟨b2, o2, m, hA, hb2, e2, p0, p1, p2, p3, p4⟩ := hcode.mac_at hf.pc
  subst hA
  have hm : nextM cs c = m := by unfold nextM; rw [List.getD_eq_getElem?_getD (l := cs.getD c.rt []), e2]; rfl
  have hmem := nextM_mem hf
  have hcd := codes_at hok hf.rt
  rw [hm] at hmem
  have hM := macF_ok (hcd.fine _ hmem)
  have hfar := hcd.far _ hmem
  obtain ⟨sz1, sz2⟩ := h.size
  obtain ⟨W1, hW1⟩ : ∃ W1, W1 = w2.alloc (Obj.cells #[.int .i64 m.op, .int .i64 m.dst, .int .i64 m.a, .int .i64 m.b, .int .i64 m.n] 54) := ⟨_, rfl⟩
  have hbW1 : Below w2.heap.size w2 W1 := by subst hW1; exact bl0
  have hMb : W1.heap[w2.heap.size]? = some (.cells #[.int .i64 m.op, .int .i64 m.dst, .int .i64 m.a, .int .i64 m.b, .int .i64 m.n] 54 (0, 0)) := by subst hW1; exact heap_alloc_new _ _
  have h1 := h.below hbW1 (Nat.le_refl _)
  have hT1 := h1.top hc
  have hT1l := Lib.hid hT1.low
  have hC1 := h1.cells
  have h2 := (h1.setTop hc (carr_pc (c := c)))
  have hC2 := h2.cells
  have h3 := h2.setSteps
  have j1 : (c.rt : Int) < (cs.length : Int) := by have := hf.rt; omega
  have j2 : (c.pc : Int) < ((cs.getD c.rt []).length : Int) := by have := hf.pc; omega
  obtain ⟨L, hL⟩ : ∃ L, L = (cs.getD c.rt []).length := ⟨_, rfl⟩
  rw [← hL] at q1 j2
  have HL := Lib.hid hL
  have cc := C.codes
  rw [hvc] at cc
  clear hvc
  have hlb := T.lt
  have hb1l : b1 < w2.heap.size := by omega
  have hb2l : b2 < w2.heap.size := by omega
  have nbP : b ≠ P := (h.notFrame (b := b) (by simp)).1
  have H3 := Lib.hid h3
  have HW1 := Lib.hid hW1.symm
  have HM := Lib.hid hM
  have Hm := Lib.hid hm
  have HMb := Lib.hid hMb
  have hbW1s := Lib.hid hbW1.size
  have hbW1b := Lib.hid (hbW1.mono sz2)
  clear C T hcods hcode h1 h2 h3 hm hM e2 hL hbW1 hMb hW1
  go_upto_region 4 with fail
  rw [HW1.out]
  have t1 := hT1.pc
  have zb := hT1.free
  have hl1 := hT1.lt
  clear cc q1 p0 p1 p2 p3 p4
  have px : (c.pc : Int) ≤ 5000 := by have := hcd.few; have := hf.pc; omega
  go_upto_region 5 with fail
  have cx := hC2.steps
  have zx := hC2.free
  have hlP : P < W1.heap.size := by have := hbW1s.out; omega
  have sx : (s.steps : Int) ≤ 900000 := by omega
  go_upto_region 7 with fail
  have hMb3 : ((W1.setCell ⟨b, 1, none⟩ (.int .i64 ((c.pc : Int) + 1))).setCell ⟨P, 23, none⟩ (.int .i64 ((s.steps : Int) + 1))).heap[w2.heap.size]? = some (.cells #[.int .i64 m.op, .int .i64 m.dst, .int .i64 m.a, .int .i64 m.b, .int .i64 m.n] 54 (0, 0)) :=
    (Below.heap_setCell _ _ _ _ (by show w2.heap.size ≠ P; omega)).trans ((Below.heap_setCell _ _ _ _ (by show w2.heap.size ≠ b; omega)).trans HMb.out)
  have hb3 : Below bm w2 ((W1.setCell ⟨b, 1, none⟩ (.int .i64 ((c.pc : Int) + 1))).setCell ⟨P, 23, none⟩ (.int .i64 ((s.steps : Int) + 1))) := ((hbW1b.out.setCell (p := ⟨b, 1, none⟩) hT1.low _).setCell (p := ⟨P, 23, none⟩) H3.out.low _)
  have h3 := H3.out
  generalize hW3 : (W1.setCell ⟨b, 1, none⟩ (.int .i64 ((c.pc : Int) + 1))).setCell ⟨P, 23, none⟩ (.int .i64 ((s.steps : Int) + 1)) = W3 at *
  have Hbw3 := Lib.hid (hbw.out.trans hb3)
  obtain ⟨op, dst, a, bb, n⟩ := m
  have hM2 := HM.out
  obtain ⟨kd, hkd⟩ := Int.eq_ofNat_of_zero_le hM2.dst0
  obtain ⟨ka, hka⟩ := Int.eq_ofNat_of_zero_le hM2.a0
  obtain ⟨kb, hkb⟩ := Int.eq_ofNat_of_zero_le hM2.b0
  simp only at hkd hka hkb hMb3
  subst hkd hka hkb
  have d1 : kd < 16 := by have := hM2.dst1; simp only at this; omega
  have d2 : ka < 16 := by have := hM2.a1; simp only at this; omega
  have d3 : kb < 16 := by have := hM2.b1; simp only at this; omega
  have hstep : stepM cs s = doM ⟨op, kd, ka, kb, n⟩ ⟨c.rt, c.pc + 1, c.fr⟩ r { s with calls := ⟨c.rt, c.pc + 1, c.fr⟩ :: r, steps := s.steps + 1 } := by
    unfold stepM
    rw [hc]
    simp only []
    rw [Hm.out]
  have m0 : W3.cell? ⟨w2.heap.size, 0, none⟩ = some (.int .i64 op) := by rw [blk_cell hMb3]; rfl
  have m1 : W3.cell? ⟨w2.heap.size, 1, none⟩ = some (.int .i64 (kd : Int)) := by rw [blk_cell hMb3]; rfl
  have m2 : W3.cell? ⟨w2.heap.size, 2, none⟩ = some (.int .i64 (ka : Int)) := by rw [blk_cell hMb3]; rfl
  have m3 : W3.cell? ⟨w2.heap.size, 3, none⟩ = some (.int .i64 (kb : Int)) := by rw [blk_cell hMb3]; rfl
  have m4 : W3.cell? ⟨w2.heap.size, 4, none⟩ = some (.int .i64 n) := by rw [blk_cell hMb3]; rfl
  have C3 := h3.cells
  have T3 := h3.top (c := ⟨c.rt, c.pc + 1, c.fr⟩) (r := r) rfl
  obtain ⟨ra, hra⟩ : ∃ x, s.regs.getD ka 0 = x := ⟨_, rfl⟩
  obtain ⟨rb, hrb⟩ : ∃ x, s.regs.getD kb 0 = x := ⟨_, rfl⟩
  have ca : W3.cell? ⟨P, 1 + ka, none⟩ = some (.int .i64 ra) := by rw [← hra]; exact C3.regs ka d2
  have cb : W3.cell? ⟨P, 1 + kb, none⟩ = some (.int .i64 rb) := by rw [← hrb]; exact C3.regs kb d3
  have z3 := C3.free
  have y1 := T3.pc
  have y2 := T3.free
  have hlb3 := T3.lt
  have hlP3 := h3.size.1
  have hlM3 := blk_lt hMb3
  have k1 : (kd : Int) < 16 := by omega
  have k2 : (ka : Int) < 16 := by omega
  have k3 : (kb : Int) < 16 := by omega
  have HR3 : Hid (∀ w' vk' vi' vo' bs', Below bm W3 w' → MRep w' S bm P cs (doM ⟨op, kd, ka, kb, n⟩ ⟨c.rt, c.pc + 1, c.fr⟩ r { s with calls := ⟨c.rt, c.pc + 1, c.fr⟩ :: r, steps := s.steps + 1 }) vc vm vk' vi' vo' bs' → R (.returned (.tuple #[.int .i64 (c.rt : Int), .int .i64 (c.pc : Int)])) w') :=
    Lib.hid fun w' vk' vi' vo' bs' e1 e2 => HR.out w' vk' vi' vo' bs' (Hbw3.out.trans e1) (by rw [hstep]; exact e2)
  have Hra := Lib.hid hra
  have Hrb := Lib.hid hrb
  have h3' : MRep W3 S bm P cs { s with calls := ⟨c.rt, c.pc + 1, c.fr⟩ :: r, steps := s.steps + 1 } vc vm (.slice (some ⟨gk, 0, none⟩) (b :: bs).length nk) vi vo (b :: bs) := h3
  have H3' := Lib.hid h3'
  clear h3 h3' hW3 hMb3 hb3 C3 T3 hra hrb hC2 cx zx hT1 hC1 HMb H3 hstep hM2 t1 zb
  simp only [] at HM Hm hfar
  have hop1 : 1 ≤ op := HM.out.op1
  have hop47 : op ≤ 47 := HM.out.op47
  have hlowb := hT1l.out
  by_cases hA : 5 ≤ op ∧ op ≤ 18
  · have g1 := hA.1
    have g2 := hA.2
    have hd : doM ⟨op, kd, ka, kb, n⟩ ⟨c.rt, c.pc + 1, c.fr⟩ r { s with calls := ⟨c.rt, c.pc + 1, c.fr⟩ :: r, steps := s.steps + 1 } = reckM { s with calls := ⟨c.rt, c.pc + 1, c.fr⟩ :: r, steps := s.steps + 1 } op kd ra rb := by rw [← Hra.out, ← Hrb.out]; exact if_pos hA
    have HR4 := HR3.out
    rw [hd] at HR4
    have HR4 := Lib.hid HR4
    clear hd hA
    go_wp2_with fail
    go_still_tail 19, (by kernel_rfl)
    change wpList _ _ _ _ _ W3.drew
    go_wp2_with fail
    with_reducible refine reckon_calls H3'.out.drew op ra rb kd g1 g2 d1 _ (fun w5 hb5 h5 => ?_)
    have Hf := Lib.hid (HR4.out w5 _ _ _ _ (below_undrew hb5) h5)
    clear hb5 h5
    go_wp2
    exact Hf.out
  by_cases hB : 19 ≤ op ∧ op ≤ 32
  · have g1 := hB.1
    have g2 := hB.2
    have g3 : ¬ op ≤ 18 := by omega
    have g4 : 5 ≤ op := by omega
    have hd : doM ⟨op, kd, ka, kb, n⟩ ⟨c.rt, c.pc + 1, c.fr⟩ r { s with calls := ⟨c.rt, c.pc + 1, c.fr⟩ :: r, steps := s.steps + 1 } = reckM { s with calls := ⟨c.rt, c.pc + 1, c.fr⟩ :: r, steps := s.steps + 1 } (op - 14) kd ra n := by rw [← Hra.out]; exact (if_neg hA).trans (if_pos hB)
    have HR4 := HR3.out
    rw [hd] at HR4
    have HR4 := Lib.hid HR4
    have e14 : op - 19 + 5 = op - 14 := by omega
    clear hd hA hB
    go_wp2_with fail
    go_still_tail 16, (by kernel_rfl)
    change wpList _ _ _ _ _ W3.drew
    go_wp2_with fail
    rw [e14]
    with_reducible refine reckon_calls H3'.out.drew (op - 14) ra n kd (by omega) (by omega) d1 _ (fun w5 hb5 h5 => ?_)
    have Hf := Lib.hid (HR4.out w5 _ _ _ _ (below_undrew hb5) h5)
    clear hb5 h5
    go_wp2
    exact Hf.out
  by_cases hC : 37 ≤ op ∧ op ≤ 43
  · have g1 := hC.1
    have g2 := hC.2
    have g3 : ¬ op ≤ 18 := by omega
    have g4 : 5 ≤ op := by omega
    have g5 : ¬ op ≤ 32 := by omega
    have g6 : 19 ≤ op := by omega
    have hd : doM ⟨op, kd, ka, kb, n⟩ ⟨c.rt, c.pc + 1, c.fr⟩ r { s with calls := ⟨c.rt, c.pc + 1, c.fr⟩ :: r, steps := s.steps + 1 } = if goesM op ra rb then { { s with calls := ⟨c.rt, c.pc + 1, c.fr⟩ :: r, steps := s.steps + 1 } with calls := ⟨c.rt, n.toNat, c.fr⟩ :: r } else { s with calls := ⟨c.rt, c.pc + 1, c.fr⟩ :: r, steps := s.steps + 1 } := by rw [← Hra.out, ← Hrb.out]; exact (if_neg hA).trans ((if_neg hB).trans (if_pos hC))
    have HR4 := HR3.out
    rw [hd] at HR4
    obtain ⟨n0, n1⟩ := HM.out.jump hC.1 hC.2
    obtain ⟨kn, hkn⟩ := Int.eq_ofNat_of_zero_le n0
    simp only [] at hkn
    subst hkn
    have HR4 := Lib.hid HR4
    clear hd hA hB hC n0 n1
    go_wp2_with fail
    cases hg : goesM op ra rb with
    | false =>
      have HR5 := HR4.out
      rw [hg] at HR5
      have HR5 := Lib.hid HR5
      have Hg := Lib.hid hg
      clear hg
      go_still_tail 16, (by kernel_rfl)
      change wpList _ _ _ _ _ W3.drew
      go_wp2_with fail
      with_reducible refine goes_calls op ra rb g1 g2 _ _ ?_
      rw [Hg.out]
      all_goals
        have Hf := Lib.hid (HR5.out _ _ _ _ _ (Below.refl bm W3).drew H3'.out.drew)
        go_wp2
        exact Hf.out
    | true =>
      have HR5 := HR4.out
      rw [hg] at HR5
      have HR5 := Lib.hid HR5
      have Hg := Lib.hid hg
      clear hg
      go_still_tail 16, (by kernel_rfl)
      change wpList _ _ _ _ _ W3.drew
      go_wp2_with fail
      with_reducible refine goes_calls op ra rb g1 g2 _ _ ?_
      rw [Hg.out]
      all_goals
        have Hf := Lib.hid (HR5.out _ _ _ _ _ ((Below.refl bm W3).setCell (p := ⟨b, 1, none⟩) hlowb (.int .i64 (kn : Int))).drew (H3'.out.setTop (c := ⟨c.rt, c.pc + 1, c.fr⟩) (r := r) rfl (carr_to kn)).drew)
        go_wp2
        exact Hf.out
  by_cases hD : 44 ≤ op
  · have g3 : ¬ op ≤ 18 := by omega
    have g4 : 5 ≤ op := by omega
    have g5 : ¬ op ≤ 32 := by omega
    have g6 : 19 ≤ op := by omega
    have g7 : ¬ op ≤ 43 := by omega
    have g8 : 37 ≤ op := by omega
    have hd : doM ⟨op, kd, ka, kb, n⟩ ⟨c.rt, c.pc + 1, c.fr⟩ r { s with calls := ⟨c.rt, c.pc + 1, c.fr⟩ :: r, steps := s.steps + 1 } = speaksM ⟨op, kd, ka, kb, n⟩ ⟨c.rt, c.pc + 1, c.fr⟩ r { s with calls := ⟨c.rt, c.pc + 1, c.fr⟩ :: r, steps := s.steps + 1 } := (if_neg hA).trans ((if_neg hB).trans ((if_neg hC).trans (if_pos hD)))
    have HR4 := HR3.out
    rw [hd] at HR4
    have HR4 := Lib.hid HR4
    have hou := hi.out
    have hcall := HM.out.call
    clear hd hA hB hC
    go_wp2_with fail
    with_reducible refine speaks_calls H3'.out (c := ⟨c.rt, c.pc + 1, c.fr⟩) (r := r) rfl hf.fr hdeep hou op n kd ka kb d1 d2 d3 (by omega) hcall _ (fun w5 vk5 vi5 vo5 bs5 hb5 h5 => ?_)
    have Hf := Lib.hid (HR4.out w5 _ _ _ _ hb5 h5)
    clear hb5 h5
    go_wp2
    exact Hf.out
  · have hd : doM ⟨op, kd, ka, kb, n⟩ ⟨c.rt, c.pc + 1, c.fr⟩ r { s with calls := ⟨c.rt, c.pc + 1, c.fr⟩ :: r, steps := s.steps + 1 } = movesM ⟨op, kd, ka, kb, n⟩ ⟨c.rt, c.pc + 1, c.fr⟩ r { s with calls := ⟨c.rt, c.pc + 1, c.fr⟩ :: r, steps := s.steps + 1 } := (if_neg hA).trans ((if_neg hB).trans ((if_neg hC).trans (if_neg hD)))
    have HR4 := HR3.out
    rw [hd] at HR4
    have HR4 := Lib.hid HR4
    have hword := HM.out.word
    have hcs : op = 1 ∨ op = 2 ∨ op = 3 ∨ op = 4 ∨ op = 33 ∨ op = 34 ∨ op = 35 ∨ op = 36 := by omega
    have g1 : ¬ 37 ≤ op := by omega
    clear hd hA hB hC
    by_cases h5 : 5 ≤ op
    · have g3 : ¬ op ≤ 18 := by omega
      have g5 : ¬ op ≤ 32 := by omega
      have g6 : 19 ≤ op := by omega
      go_wp2_with fail
      with_reducible refine moves_calls H3'.out (c := ⟨c.rt, c.pc + 1, c.fr⟩) (r := r) rfl hf.fr op n kd ka kb d1 d2 d3 hcs hword _ (fun w5 hb5 h5 => ?_)
      have Hf := Lib.hid (HR4.out w5 _ _ _ _ hb5 h5)
      clear hb5 h5
      go_wp2
      exact Hf.out
    · have g6 : ¬ 19 ≤ op := by omega
      go_wp2_with fail
      with_reducible refine moves_calls H3'.out (c := ⟨c.rt, c.pc + 1, c.fr⟩) (r := r) rfl hf.fr op n kd ka kb d1 d2 d3 hcs hword _ (fun w5 hb5 h5 => ?_)
      have Hf := Lib.hid (HR4.out w5 _ _ _ _ hb5 h5)
      clear hb5 h5
      go_wp2
      exact Hf.out
end Go.Proofs.YtcakodemngchpaaGreatDoor
