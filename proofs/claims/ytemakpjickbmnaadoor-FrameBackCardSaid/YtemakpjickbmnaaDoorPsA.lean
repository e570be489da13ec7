/- Rows of instructions: a row appended onto nil, one instruction appended. -/
import Derived.Test.YtemakpjickbmnaaDoorBase
import Derived.Test.YtemakpjickbmnaaDoorRows
import Derived.IntWalk
import Derived.Test.YtemakpjickbmnaaDoorPkC
namespace Go.Proofs.YtemakpjickbmnaaDoor
open Go.RowKit
set_option linter.unusedSimpArgs false
set_option linter.unusedVariables false

/-- append of a row of instructions onto nil. -/
theorem app_nil_mac {ops : Array Oper} {rest : List Oper} {o : Oper} {a : Act} {w : World} {Q : Exit → Act → World → Prop} (hgd : o.guard = none) (s x : Operand) (ho : o.op = .call { callee := .builtin .append, args := #[s, x], argTypes := #[23, 23] })
    (hs : a.eval s = .slice none 0 0) (ad : Addr) (n c : Nat) (M : List Mac) (hx : a.eval x = .slice (some ad) n c) (hn : M.length = n) (hfew : n ≤ 5000) (hnews : ∀ j u, (M.flatMap Mac.cells)[j]? = some u → w.cell? (ad.add j) = some u)
    (h : ∀ v' w', w'.ownsRow w.heap.size 36 5 v' n (M.flatMap Mac.cells) → w.grownBy w' none → wpList Tryd.prog ops Q rest (a.put o.dst v') w') : wpList Tryd.prog ops Q (o :: rest) a w := by
  obtain ⟨i0, hi0, hz0, hz1, hz2⟩ := info_parts info_Mac
  have hfl : (M.flatMap Mac.cells).length = n * 5 := by rw [flat_length Mac.cells 5 (fun _ => rfl), hn]
  refine wpList_append_own w hgd s x 23 ho w.heap.size 36 i0 _ 5 40 Tryd.underlying23 hi0 hz0 hz1 hz2 rfl (by decide) (.slice none 0 0) 0 [] hs (World.ownsRow_nil _ _ _ _) ad n c (M.flatMap Mac.cells) hx hfl hnews (one_Mac M) (by unfold maxLen; omega) (by omega) (Nat.le_refl _) (fun v' w' h1 h2 _ => h v' w' ?_ h2)
  rw [Nat.zero_add, List.nil_append] at h1
  exact h1
/-- append of one instruction, held in a block, onto a row of the call's own. -/
theorem app_one_mac {ops : Array Oper} {rest : List Oper} {o : Oper} {a : Act} {w : World} {Q : Exit → Act → World → Prop} (hgd : o.guard = none) (s x : Operand) (ho : o.op = .call { callee := .builtin .append, args := #[s, x], argTypes := #[23, 23] })
    {base n : Nat} {v : Value} {xs : List Mac} (hs : a.eval s = v) (hn : xs.length = n) (hown : w.ownsRow base 36 5 v n (xs.flatMap Mac.cells)) (g : Nat) (y : Mac) (hx : a.eval x = .slice (some ⟨g, 0, none⟩) 1 1) (hg : w.heap[g]? = some (.cells #[.int .i64 y.op, .int .i64 y.dst, .int .i64 y.a, .int .i64 y.b, .int .i64 y.n] 36 (0, 0))) (hfew : n ≤ 5000) (hbase : base ≤ w.heap.size)
    (h : ∀ v' w', w'.ownsRow base 36 5 v' (n + 1) ((xs ++ [y]).flatMap Mac.cells) → w.grownBy w' v.ownBlock → wpList Tryd.prog ops Q rest (a.put o.dst v') w') : wpList Tryd.prog ops Q (o :: rest) a w := by
  obtain ⟨i0, hi0, hz0, hz1, hz2⟩ := info_parts info_Mac
  refine wpList_append_own w hgd s x 23 ho base 36 i0 _ 5 40 Tryd.underlying23 hi0 hz0 hz1 hz2 rfl (by decide) v n (xs.flatMap Mac.cells) hs hown ⟨g, 0, none⟩ 1 1 y.cells hx rfl (World.news_of_block (cs := #[.int .i64 y.op, .int .i64 y.dst, .int .i64 y.a, .int .i64 y.b, .int .i64 y.n]) (t := 36) (fr := (0, 0)) hg) (by intro u hu; exact one_Mac [y] u (by simpa using hu)) (by unfold maxLen; omega) (by omega) hbase (fun v' w' h1 h2 _ => h v' w' ?_ h2)
  rw [List.flatMap_append]
  simpa using h1
end Go.Proofs.YtemakpjickbmnaaDoor
