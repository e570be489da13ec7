/- LinkUndone's drawn region: each operation. -/
import Derived.Test.YtemakpjickbmnaaDoorBase
import Derived.Test.YtemakpjickbmnaaDoorRows
import Derived.IntWalk
import Derived.Outline
import Derived.Deep.AppendLies
import Derived.Test.YtemakpjickbmnaaDoorLuI
import Derived.Test.YtemakpjickbmnaaDoorKb0
namespace Go.Proofs.YtemakpjickbmnaaDoor
open Go.RowKit
set_option linter.unusedSimpArgs false
set_option linter.unusedVariables false

section
variable {C : LuC} {p q : Nat} {v1 v2 : Value} {d : Nat → Bool} {a : Act} {w : World} {Q : Exit → Act → World → Prop} {o : Oper}
theorem LuI.old (H : LuI C p q v1 v2 d a w) {k : Nat} (hk : k ∉ luS) {v : Value} (h : C.a0.tmps[k]? = some v) : a.tmps[k]? = some v := (H.ot k hk).trans h
theorem lu0 (H : LuI C p q v1 v2 d a w) (hsz : 80 < C.a0.tmps.size) (h3 : C.a0.tmps[3]? = some C.V3) (hop : o.op = .move (.tmp 3)) (hdst : o.dst = some 73) : o.wp Tryd.prog a w (fun a' w'' => ∃ p q v1 v2, LuI C p q v1 v2 (upd d 0) a' w'') Q := by
  refine wp_value (v := C.V3) (w' := w) (by
    have e := eval_tmp (H.old (by simp [luS]) h3)
    simp [execOp, hop, e]) ⟨p, q, v1, v2, ?_⟩
  rw [hdst]
  exact H.fill 0 73 _ (.inl ⟨rfl, rfl, rfl⟩) hsz
theorem lu6 (H : LuI C p q v1 v2 d a w) (hsz : 80 < C.a0.tmps.size) (h5 : d 5 = true) (hop : o.op = .move (.tmp 78)) (hdst : o.dst = some 72) : o.wp Tryd.prog a w (fun a' w'' => ∃ p q v1 v2, LuI C p q v1 v2 (upd d 6) a' w'') Q := by
  refine wp_value (w' := w) (by
    have e := eval_tmp (H.s5 h5).1
    simp only [execOp, hop, e]
    rfl) ⟨p, q, v1, v2, ?_⟩
  rw [hdst]
  exact H.fill 6 72 _ (.inr (.inr (.inl ⟨rfl, rfl, rfl, h5⟩))) hsz
theorem lu7 (H : LuI C p q v1 v2 d a w) (hsz : 80 < C.a0.tmps.size) (h6 : d 6 = true) (hop : o.op = .extract (.tmp 72) 0) (hdst : o.dst = some 79) : o.wp Tryd.prog a w (fun a' w'' => ∃ p q v1 v2, LuI C p q v1 v2 (upd d 7) a' w'') Q := by
  refine wp_value (w' := w) (by
    have e := eval_tmp (H.s6 h6)
    simp only [execOp, hop, e]
    rfl) ⟨p, q, v1, v2, ?_⟩
  rw [hdst]
  exact H.fill 7 79 _ (.inr (.inr (.inr (.inl ⟨rfl, rfl, rfl, H.o6 h6⟩)))) hsz
theorem lu8 (H : LuI C p q v1 v2 d a w) (hsz : 80 < C.a0.tmps.size) (h6 : d 6 = true) (hop : o.op = .extract (.tmp 72) 1) (hdst : o.dst = some 80) : o.wp Tryd.prog a w (fun a' w'' => ∃ p q v1 v2, LuI C p q v1 v2 (upd d 8) a' w'') Q := by
  refine wp_value (w' := w) (by
    have e := eval_tmp (H.s6 h6)
    simp only [execOp, hop, e]
    rfl) ⟨p, q, v1, v2, ?_⟩
  rw [hdst]
  exact H.fill 8 80 _ (.inr (.inr (.inr (.inr ⟨rfl, rfl, rfl, H.o6 h6⟩)))) hsz
theorem lu2 (H : LuI C p q v1 v2 d a w) (hsz : 80 < C.a0.tmps.size) {M : Nat} (h8 : C.a0.tmps[8]? = some (.pointer (some ⟨M, 0, none⟩))) (hM : C.w0.heap[M]? = some (.cells #[C.X1, C.X2] 66 (0, 0))) (hop : o.op = .load 66 (.tmp 8)) (hdst : o.dst = some 75) : o.wp Tryd.prog a w (fun a' w'' => ∃ p q v1 v2, LuI C p q v1 v2 (upd d 2) a' w'') Q := by
  refine wp_value (v := .agg #[C.X1, C.X2]) (w' := w) (by
    have e := eval_tmp (H.old (by simp [luS]) h8)
    obtain ⟨c0, c1⟩ := cells_blk ((H.be.block _ (blk_lt hM)).trans hM)
    simp only [execOp, hop, e]
    simp [go_sem, c0, c1]) ⟨p, q, v1, v2, ?_⟩
  rw [hdst]
  exact H.fill 2 75 _ (.inr (.inl ⟨rfl, rfl, rfl⟩)) hsz
theorem lu3 (H : LuI C p q v1 v2 d a w) (hsz : 80 < C.a0.tmps.size) (h2 : d 2 = true) (hop : o.op = .buildSlice 56 1 #[(0, .tmp 75)]) (hdst : o.dst = some 76) : o.wp Tryd.prog a w (fun a' w'' => ∃ p q v1 v2, LuI C p q v1 v2 (upd d 3) a' w'') Q := by
  refine wp_value (v := .slice (some ⟨w.heap.size, 0, none⟩) 1 1) (w' := w.alloc (.cells #[C.X1, C.X2] 66)) (by
    have e := H.s2 h2
    simp only [execOp, hop]
    simp [go_sem, e]) ⟨p, q, v1, v2, ?_⟩
  rw [hdst]
  exact (H.up (by exact bl0)).setB hsz _ (heap_alloc_new _ _)
theorem lu9 (H : LuI C p q v1 v2 d a w) (hsz : 80 < C.a0.tmps.size) (h9 : d 9 = false) (h11 : d 11 = false) (hop : o.op = .alloc 50) (hdst : o.dst = some 10) : o.wp Tryd.prog a w (fun a' w'' => ∃ p q v1 v2, LuI C p q v1 v2 (upd d 9) a' w'') Q := by
  refine wp_value (v := .pointer (some ⟨w.heap.size, 0, none⟩)) (w' := w.alloc (.cells #[.slice none 0 0, .slice none 0 0] 50)) (by
    simp only [execOp, hop]
    simp [go_sem]) ⟨w.heap.size, q, v1, v2, ?_⟩
  rw [hdst]
  exact H.setX hsz h11 h9
theorem lu10 (H : LuI C p q v1 v2 d a w) (hsz : 80 < C.a0.tmps.size) (hop : o.op = .alloc 25) (hdst : o.dst = some 11) : o.wp Tryd.prog a w (fun a' w'' => ∃ p q v1 v2, LuI C p q v1 v2 (upd d 10) a' w'') Q := by
  refine wp_value (v := .pointer (some ⟨w.heap.size, 0, none⟩)) (w' := w.alloc (.cells #[.int .i64 0, .int .i64 0] 25)) (by
    simp only [execOp, hop]
    simp [go_sem]) ⟨p, w.heap.size, v1, v2, ?_⟩
  rw [hdst]
  exact H.setY hsz
set_option maxRecDepth 10000 in
theorem lu1 (H : LuI C p q v1 v2 d a w) (hsz : 80 < C.a0.tmps.size) (h0 : d 0 = true) {ad : Addr} {cc : Nat} (hV : C.V3 = .slice (some ad) C.n cc) (hrl : C.rows.length = C.n * 2) (hnews : ∀ W, Below C.w0.heap.size C.w0 W → ∀ j u, C.rows[j]? = some u → W.cell? (ad.add j) = some u) (hone : ∀ u ∈ C.rows, u.oneCell' = true) (hn : 0 < C.n) (hn6 : C.n ≤ 6)
    (hop : o.op = .call { callee := .builtin .append, args := #[.const (.slice none 0 0), .tmp 73], argTypes := #[56, 56] }) (hdst : o.dst = some 74) : o.wp Tryd.prog a w (fun a' w'' => ∃ p q v1 v2, LuI C p q v1 v2 (upd d 1) a' w'') Q := by
  obtain ⟨iO, hiO, zO0, zO1, zO2⟩ := info_parts info_ObjectK
  refine wp_append_lies w _ _ 56 hop C.w0.heap.size 66 iO _ 2 48 Tryd.underlying56 hiO zO0 zO1 zO2 rfl (by decide) (.slice none 0 0) 0 [] rfl (World.ownsRow_nil _ _ _ _) ad C.n cc C.rows ((eval_tmp (H.s0 h0)).trans hV) hrl (hnews w H.be) hone hn (by unfold maxLen; omega) (by omega) H.be.size w.heap.size rfl (fun g cap w' hown hgrow hat hlt => ⟨p, q, v1, v2, ?_⟩)
  rw [hdst, Nat.zero_add]
  rw [Nat.zero_add, List.nil_append] at hown
  exact (H.up (Below.grown (Below.refl _ _) hgrow (Nat.le_refl _) (fun k hk => by cases hk))).setA hsz g cap hown
set_option maxRecDepth 10000 in
theorem lu4 (H : LuI C p q v1 v2 d a w) (hsz : 80 < C.a0.tmps.size) (h1 : d 1 = true) (h3 : d 3 = true) (h4 : d 4 = false) (hX1 : C.X1.oneCell' = true) (hX2 : C.X2.oneCell' = true) (hn6 : C.n ≤ 6) (hmk : ∀ w' g cap, Below C.w0.heap.size C.w0 w' → w'.ownsRow C.w0.heap.size 66 2 (.slice (some ⟨g, 0, none⟩) (C.n + 1) cap) (C.n + 1) (C.rows ++ [C.X1, C.X2]) → C.SLf w' (.slice (some ⟨g, 0, none⟩) (C.n + 1) cap))
    (hop : o.op = .call { callee := .builtin .append, args := #[.tmp 74, .tmp 76], argTypes := #[56, 56] }) (hdst : o.dst = some 77) : o.wp Tryd.prog a w (fun a' w'' => ∃ p q v1 v2, LuI C p q v1 v2 (upd d 4) a' w'') Q := by
  obtain ⟨iO, hiO, zO0, zO1, zO2⟩ := info_parts info_ObjectK
  obtain ⟨g1, cap1, e1, hown⟩ := H.s1 h1
  obtain ⟨g3, e3, hg3⟩ := H.s3 h3
  have hown1 := hown h4
  refine wp_append_lies w _ _ 56 hop C.w0.heap.size 66 iO _ 2 48 Tryd.underlying56 hiO zO0 zO1 zO2 rfl (by decide) (.slice (some ⟨g1, 0, none⟩) C.n cap1) C.n C.rows (eval_tmp e1) hown1 ⟨g3, 0, none⟩ 1 1 [C.X1, C.X2] (eval_tmp e3) rfl (World.news_of_block (cs := #[C.X1, C.X2]) (t := 66) (fr := (0, 0)) (hg3 h4)) (by intro u hu; simp at hu; rcases hu with rfl | rfl <;> assumption) (by omega) (by unfold maxLen; omega) (by omega) H.be.size w.heap.size rfl (fun g cap w' hown2 hgrow hat hlt => ⟨p, q, v1, v2, ?_⟩)
  rw [hdst]
  have hb := H.be.grown hgrow H.be.size (fun k hk => by cases hk; exact (hown1.lt g1 rfl).1)
  exact H.setC hsz h1 h4 hown1 hgrow _ (hmk w' g cap hb hown2)
theorem lu5 (H : LuI C p q v1 v2 d a w) (hsz : 80 < C.a0.tmps.size) (h4 : d 4 = true) (h5 : d 5 = false) {f : FuncId} (hen : Enters Tryd.prog f) (hcal : ∀ w' v R, Below C.w0.heap.size C.w0 w' → C.SLf w' v → (∀ w'' u1 u2, Below w'.heap.size w' w'' → rpGlobal.SLF w'' w'.heap.size w''.heap.size C.gs u1 → rpRoutine.SLF w'' w'.heap.size w''.heap.size C.rs u2 → R (.returned (.tuple #[.agg #[u1, u2], .agg #[.int .i64 0, .int .i64 0]])) w'') → Calls Tryd.prog f #[v] w' R)
    {ty : TypeId} (hop : o.op = .call { callee := .value (.func f), args := #[.tmp 77], argTypes := #[ty] }) (hdst : o.dst = some 78) : o.wp Tryd.prog a w (fun a' w'' => ∃ p q v1 v2, LuI C p q v1 v2 (upd d 5) a' w'') Q := by
  obtain ⟨v, e, hv⟩ := H.s4 h4
  have hr : (execOp a.eval o).run Tryd.prog w = .ok (.enter f #[v]) w := by
    have := hen.run
    simp only [execOp, hop, resolve]
    simp [go_sem, e, this]
  unfold Oper.wp
  rw [hr]
  show Calls Tryd.prog f #[v] w _
  refine hcal w v _ H.be (hv h5) fun w'' u1 u2 hb h1 h2 => ?_
  refine ⟨p, q, u1, u2, ?_⟩
  rw [hdst]
  exact H.setD hsz h4 h5 hb h1 h2
theorem lu11 (H : LuI C p q v1 v2 d a w) (h9 : d 9 = true) (h7 : d 7 = true) (hop : o.op = .store 50 (.tmp 10) (.tmp 79)) (hdst : o.dst = none) : o.wp Tryd.prog a w (fun a' w'' => ∃ p q v1 v2, LuI C p q v1 v2 (upd d 11) a' w'') Q := by
  have hr : (execOp a.eval o).run Tryd.prog w = .ok .skip ((w.setCell ⟨p, 0, none⟩ v1).setCell ⟨p, 1, none⟩ v2) := by
    obtain ⟨e1, _, e3⟩ := H.s9 h9
    have e2 := H.s7 h7
    obtain ⟨_, w9, b, hg, hr, _⟩ := H.s5 (H.o7 h7)
    obtain ⟨A1, m1, rfl, _, _, _⟩ := hg.cases_
    obtain ⟨A2, m2, rfl, _, _, _⟩ := hr.cases_
    obtain ⟨x, y, hxy⟩ : ∃ x y, w.heap[p]? = some (.cells #[x, y] 50 (0, 0)) := by
      by_cases h : d 11 = true
      · rw [if_pos h] at e3; exact ⟨_, _, e3⟩
      · rw [if_neg h] at e3; exact ⟨_, _, e3⟩
    obtain ⟨c0, c1⟩ := cells_blk hxy
    have f0 : w.frozen? ⟨p, 0, none⟩ = false := by simp [World.frozen?, hxy]
    have f1 : w.frozen? ⟨p, 1, none⟩ = false := by simp [World.frozen?, hxy]
    simp only [execOp, hop]
    simp [go_sem, e1, e2, c0, c1, f0, f1]
  unfold Oper.wp
  rw [hr]
  refine ⟨p, q, v1, v2, ?_⟩
  rw [hdst]
  exact H.stX h9 h7
theorem lu12 (H : LuI C p q v1 v2 d a w) (h10 : d 10 = true) (h8 : d 8 = true) (hop : o.op = .store 25 (.tmp 11) (.tmp 80)) (hdst : o.dst = none) : o.wp Tryd.prog a w (fun a' w'' => ∃ p q v1 v2, LuI C p q v1 v2 (upd d 12) a' w'') Q := by
  have hr : (execOp a.eval o).run Tryd.prog w = .ok .skip ((w.setCell ⟨q, 0, none⟩ (.int .i64 0)).setCell ⟨q, 1, none⟩ (.int .i64 0)) := by
    obtain ⟨e1, _, hxy⟩ := H.s10 h10
    have e2 := H.s8 h8
    obtain ⟨c0, c1⟩ := cells_blk hxy
    have f0 : w.frozen? ⟨q, 0, none⟩ = false := by simp [World.frozen?, hxy]
    have f1 : w.frozen? ⟨q, 1, none⟩ = false := by simp [World.frozen?, hxy]
    simp only [execOp, hop]
    simp [go_sem, e1, e2, c0, c1, f0, f1]
  unfold Oper.wp
  rw [hr]
  refine ⟨p, q, v1, v2, ?_⟩
  rw [hdst]
  exact H.stY h10 h8
end
end Go.Proofs.YtemakpjickbmnaaDoor
