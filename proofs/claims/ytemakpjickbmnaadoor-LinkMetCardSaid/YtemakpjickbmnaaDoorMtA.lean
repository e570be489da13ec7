/- machine.Met's map: how often each instruction was met. machine.Met$1: one instruction more is met. machine.Met: how often each instruction was met. -/
import Derived.Test.YtemakpjickbmnaaDoorBase
import Derived.Test.YtemakpjickbmnaaDoorRows
import Derived.IntWalk
import Derived.Outline
import Derived.WideKeyArr
import Derived.WideKeyEntry
import Derived.Test.YtemakpjickbmnaaDoorMach9
import Derived.Test.YtemakpjickbmnaaDoorMachD
import Derived.Deep.LoopGhost
import Derived.Deep.AppendLies
import Derived.Test.YtemakpjickbmnaaDoorCopyA
/- machine.Met's map: how often each instruction was met. -/
namespace Go.Proofs.YtemakpjickbmnaaDoor
open Go.RowKit
set_option linter.unusedSimpArgs false
set_option linter.unusedVariables false
open Go.WideMaps (KeyLaw ArrKey)

theorem arr2 : ArrKey Tryd.prog 113 3 2 := ⟨Tryd.underlying113, by kernel_rfl, by kernel_rfl, by kernel_rfl⟩
def key2 (p : Nat × Nat) : Value := .agg #[.int .i64 (p.1 : Int), .int .i64 (p.2 : Int)]
theorem key2_inj {p q : Nat × Nat} (h : key2 p = key2 q) : p = q := by
  obtain ⟨a, b⟩ := p
  obtain ⟨c, d⟩ := q
  simp [key2] at h
  rw [Prod.mk.injEq]
  omega
theorem key2_of {p : Nat × Nat} (h1 : p.1 ≤ 1000000) (h2 : p.2 ≤ 1000000) : ∃ l, keyOf Tryd.prog 113 (key2 p) = some l := by
  have hk : Tryd.prog.keyType 113 = true := by kernel_rfl
  have hc2 : Tryd.prog.cellsOf 113 = 2 := by kernel_rfl
  have hc1 : Tryd.prog.cellsOf 3 = 1 := by kernel_rfl
  have hw : ∀ n : Nat, n ≤ 1000000 → (Lit.int .i64 (n : Int)).wf = true := fun n hn => by
    simp [Lit.wf, IntKind.min, IntKind.max, IntKind.signed, IntKind.bits]
    omega
  obtain ⟨m, hm⟩ : ∃ m, Tryd.prog.types.size = m + 1 := ⟨Tryd.prog.types.size - 1, by
    have : 0 < Tryd.prog.types.size := of_decide_eq_true (by kernel_rfl)
    omega⟩
  have hl : ∀ n : Nat, n ≤ 1000000 → Tryd.prog.keyLits (m + 1) 3 [.int .i64 (n : Int)] = some [.int .i64 (n : Int)] := fun n hn => by
    unfold Program.keyLits
    rw [Tryd.underlying3]
    simp [hw n hn]
  have hlits : Tryd.prog.keyLits (Tryd.prog.types.size + 1) 113 (key2 p).cells.toList = some [.int .i64 (p.1 : Int), .int .i64 (p.2 : Int)] := by
    rw [hm]
    show Tryd.prog.keyLits (m + 1 + 1) 113 [.int .i64 (p.1 : Int), .int .i64 (p.2 : Int)] = _
    unfold Program.keyLits
    rw [Tryd.underlying113]
    simp only [hc2, hc1, List.length_cons, List.length_nil]
    have e : List.range 2 = [0, 1] := by decide
    simp [e, hl p.1 h1, hl p.2 h2]
  have hf : (key2 p).formed Tryd.prog 113 = true := by
    unfold key2 Value.formed
    rw [Tryd.underlying113]
    simp [hc2]
  refine ⟨.string (keyBytes [.int .i64 (p.1 : Int), .int .i64 (p.2 : Int)]), ?_⟩
  unfold keyOf
  rw [Tryd.underlying113]
  simp only [hk, hf, Bool.and_self, if_true]
  rw [hlits]
  rfl
/-- What the map holds: of each that was met, how often. -/
structure MapN (w : World) (b : Nat) (tr : List (Nat × Nat)) : Prop where
  small : ∀ p ∈ tr, p.1 ≤ 1000000 ∧ p.2 ≤ 1000000
  ex : ∃ es clock, w.heap[b]? = some (.map es clock) ∧ MapKept.Stamped es clock ∧ es.size ≤ tr.length ∧ (∀ x ∈ es.toList, ∃ p ∈ tr, x.key = key2 p ∧ x.val = .int .i64 (tr.count p : Int)) ∧ (∀ p ∈ tr, ∃ x ∈ es.toList, x.key = key2 p)
theorem MapN.keep {w w' : World} {b : Nat} {tr : List (Nat × Nat)} (h : MapN w b tr) (hk : w'.heap[b]? = w.heap[b]?) : MapN w' b tr := by
  obtain ⟨es, clock, h1, h2⟩ := h.ex
  exact ⟨h.small, es, clock, hk.trans h1, h2⟩
theorem MapN.look {w : World} {b : Nat} {tr : List (Nat × Nat)} (h : MapN w b tr) {p : Nat × Nat} (h1 : p.1 ≤ 1000000) (h2 : p.2 ≤ 1000000) : (Instr.lookup 112 (.map (some b)) (key2 p) false).run Tryd.prog w = .ok (.int .i64 (tr.count p : Int)) w := by
  obtain ⟨es, clock, hb, hs, hz, hes, hall⟩ := h.ex
  obtain ⟨kl, hkey⟩ := key2_of h1 h2
  have K := arr2.law
  have hz : ∀ u : World, (zeroValue 3).run Tryd.prog u = .ok (.int .i64 0) u := fun u => by simp [go_sem]
  have hkeys : ∀ e ∈ es.toList, ∃ l, keyOf Tryd.prog 113 e.key = some l := fun e he => by
    obtain ⟨q, hq, e1, _⟩ := hes e he
    rw [e1]
    exact key2_of (h.small q hq).1 (h.small q hq).2
  rcases K.find w hkey es.toList hkeys with ⟨f1, f2⟩ | ⟨j, e0, f1, f2, f3⟩
  · have hc : tr.count p = 0 := by
      rw [List.count_eq_zero]
      intro hp
      obtain ⟨x, hx, e⟩ := hall p hp
      exact f2 x hx e
    simp [Instr.lookup, run_underlying Tryd.underlying112, MapKept.run_getObj_map hb, K.check w _ hkey, f1, hz, Result.andThen, hc]
  · obtain ⟨q, hq, e1, e2⟩ := hes e0 (List.mem_of_getElem? f2)
    have hpq : q = p := key2_inj (e1.symm.trans f3)
    rw [hpq] at e2
    simp [Instr.lookup, run_underlying Tryd.underlying112, MapKept.run_getObj_map hb, K.check w _ hkey, f1, e2, Result.andThen]
theorem MapN.mk2 {w : World} {b : Nat} {tr : List (Nat × Nat)} {p : Nat × Nat} (hsm : ∀ q ∈ tr ++ [p], q.1 ≤ 1000000 ∧ q.2 ≤ 1000000) {es : Array MapEntry} {clock : Nat} (hb : w.heap[b]? = some (.map es clock)) (hs : MapKept.Stamped es clock) (hz : es.size ≤ (tr ++ [p]).length)
    (hes : ∀ x ∈ es.toList, ∃ q ∈ tr ++ [p], x.key = key2 q ∧ x.val = .int .i64 ((tr ++ [p]).count q : Int)) (hall : ∀ q ∈ tr ++ [p], ∃ x ∈ es.toList, x.key = key2 q) : MapN w b (tr ++ [p]) := ⟨hsm, es, clock, hb, hs, hz, hes, hall⟩
/-- An entry's place is taken, then its number is stored. -/
theorem MapN.entry {w : World} {b : Nat} {tr : List (Nat × Nat)} (h : MapN w b tr) {p : Nat × Nat} (h1 : p.1 ≤ 1000000) (h2 : p.2 ≤ 1000000) :
    ∃ (v0 : Value) (st : Nat) (W1 : World), (Instr.mapEntry 112 (.map (some b)) (key2 p)).run Tryd.prog w = .ok (.tuple #[v0, .int .i64 (st : Int)]) W1 ∧ Grew (fun j => j = b) w W1 ∧
      (Instr.lookup 112 (.map (some b)) (key2 p) false).run Tryd.prog W1 = .ok (.int .i64 (tr.count p : Int)) W1 ∧
      ∃ W2, (Instr.entryStore 112 (.map (some b)) (.int .i64 (st : Int)) (.int .i64 ((tr.count p : Int) + 1))).run Tryd.prog W1 = .ok () W2 ∧ Grew (fun j => j = b) w W2 ∧ MapN W2 b (tr ++ [p]) := by
  obtain ⟨es, clock, hb, hs, hz, hes, hall⟩ := h.ex
  obtain ⟨s1, s2, s3⟩ := hs
  obtain ⟨kl, hkey⟩ := key2_of h1 h2
  have K := arr2.law
  have hz0 : ∀ u : World, (zeroValue 3).run Tryd.prog u = .ok (.int .i64 0) u := fun u => by simp [go_sem]
  have hkeys : ∀ e ∈ es.toList, ∃ l, keyOf Tryd.prog 113 e.key = some l := fun e he => by
    obtain ⟨q, hq, e1, _⟩ := hes e he
    rw [e1]
    exact key2_of (h.small q hq).1 (h.small q hq).2
  have hsm : ∀ q ∈ tr ++ [p], q.1 ≤ 1000000 ∧ q.2 ≤ 1000000 := fun q hq => by
    rcases List.mem_append.1 hq with hq | hq
    · exact h.small q hq
    · rw [List.mem_singleton.1 hq]; exact ⟨h1, h2⟩
  have ht := Tryd.underlying112
  have hgr : ∀ (W : World) (o : Obj), Grew (fun j => j = b) w W → Grew (fun j => j = b) w (ChangeMaps.setBlock W b o) := fun W o g => by
    refine ⟨g.os, g.tape, g.output, by simpa [ChangeMaps.setBlock] using g.size, fun k hk hX => ?_⟩
    rw [show (ChangeMaps.setBlock W b o).heap[k]? = W.heap[k]? from by
      simp only [ChangeMaps.setBlock]
      exact Array.getElem?_setIfInBounds_ne fun e => hX e.symm]
    exact g.block k hk hX
  have hat : ∀ (W : World) (o o' : Obj), W.heap[b]? = some o → (ChangeMaps.setBlock W b o').heap[b]? = some o' := fun W o o' hW => (MapKept.heap_set hW).1
  rcases K.find w hkey es.toList hkeys with ⟨f1, f2⟩ | ⟨j, e0, f1, f2, f3⟩
  · have hc : tr.count p = 0 := by
      rw [List.count_eq_zero]
      intro hp
      obtain ⟨x, hx, e⟩ := hall p hp
      exact f2 x hx e
    rw [hc]
    obtain ⟨es1, he1⟩ : ∃ es1, es1 = es.push ⟨key2 p, .int .i64 0, clock⟩ := ⟨_, rfl⟩
    obtain ⟨W1, hW1⟩ : ∃ W1, W1 = ChangeMaps.setBlock w b (.map es1 (clock + 1)) := ⟨_, rfl⟩
    have hb1 : W1.heap[b]? = some (.map es1 (clock + 1)) := by rw [hW1]; exact hat _ _ _ hb
    have hg1 : Grew (fun j => j = b) w W1 := by rw [hW1]; exact hgr _ _ (Grew.refl _ _)
    have hr1 : (Instr.mapEntry 112 (.map (some b)) (key2 p)).run Tryd.prog w = .ok (.tuple #[.int .i64 0, .int .i64 (clock : Int)]) W1 := by
      rw [hW1, he1]
      simp [Instr.mapEntry, run_underlying ht, MapKept.run_getObj_map hb, K.check w false hkey, f1, hz0, MapKept.run_setObj_map _ hb, Result.andThen, ChangeMaps.setBlock, goInt]
    have hkeys1 : ∀ e ∈ es1.toList, ∃ l, keyOf Tryd.prog 113 e.key = some l := fun e he => by
      rw [he1, Array.toList_push, List.mem_append, List.mem_singleton] at he
      rcases he with he | he
      · exact hkeys e he
      · rw [he]; exact ⟨kl, hkey⟩
    have hlook : (Instr.lookup 112 (.map (some b)) (key2 p) false).run Tryd.prog W1 = .ok (.int .i64 0) W1 := by
      rcases K.find W1 hkey es1.toList hkeys1 with ⟨_, g2⟩ | ⟨i, e1, g1, g2, g3⟩
      · exact absurd rfl (g2 ⟨key2 p, .int .i64 0, clock⟩ (by rw [he1, Array.toList_push]; simp))
      · have hm := List.mem_of_getElem? g2
        rw [he1, Array.toList_push, List.mem_append, List.mem_singleton] at hm
        have hv : e1.val = .int .i64 0 := by
          rcases hm with hm | hm
          · exact absurd g3 (f2 e1 hm)
          · rw [hm]
        simp [Instr.lookup, run_underlying ht, MapKept.run_getObj_map hb1, K.check W1 _ hkey, g1, hv, Result.andThen]
    obtain ⟨es2, he2⟩ : ∃ es2, es2 = es.push ⟨key2 p, .int .i64 1, clock⟩ := ⟨_, rfl⟩
    obtain ⟨W2, hW2⟩ : ∃ W2, W2 = ChangeMaps.setBlock W1 b (.map es2 (clock + 1)) := ⟨_, rfl⟩
    have hb2 : W2.heap[b]? = some (.map es2 (clock + 1)) := by rw [hW2]; exact hat _ _ _ hb1
    have hg2 : Grew (fun j => j = b) w W2 := by rw [hW2]; exact hgr _ _ hg1
    have hidx : es1.findIdx? (fun e => ((e.born : Nat) : Int) == ((clock : Nat) : Int)) = some es.size := by
      rw [he1, WideElems.findIdx_arr]
      have := WideElems.findIdx_born (l := (es.push ⟨key2 p, .int .i64 0, clock⟩).toList) (j := es.size) (e0 := ⟨key2 p, .int .i64 0, clock⟩) (by
        simp only [Array.toList_push, List.map_append, List.map_cons, List.map_nil]
        refine List.nodup_append.2 ⟨s2, by simp, fun a ha c hc e1 => ?_⟩
        simp only [List.mem_singleton] at hc
        obtain ⟨x, hx, rfl⟩ := List.mem_map.1 ha
        have := s1 x hx
        omega) (by simp)
      exact this
    have hmod : es1.modify es.size (fun e => { e with val := .int .i64 1 }) = es2 := by
      rw [he1, he2]
      apply Array.ext'
      rw [Array.toList_modify, Array.toList_push, Array.toList_push, ← Array.length_toList, WideElems.modify_last]
    have hr2 : (Instr.entryStore 112 (.map (some b)) (.int .i64 (clock : Int)) (.int .i64 (((0 : Nat) : Int) + 1))).run Tryd.prog W1 = .ok () W2 := by
      rw [hW2]
      simp [Instr.entryStore, MapKept.run_getObj_map hb1, asInt, asIntOf, hidx, hmod, MapKept.run_setObj_map _ hb1, Result.andThen, ChangeMaps.setBlock]
    refine ⟨.int .i64 0, clock, W1, hr1, hg1, hlook, W2, hr2, hg2, MapN.mk2 hsm hb2 (by rw [he2]; exact MapKept.stamped_push ⟨s1, s2, s3⟩ f2) (by rw [he2]; simp; exact hz) (fun x hx => ?_) (fun q hq => ?_)⟩
    · rw [he2, Array.toList_push, List.mem_append, List.mem_singleton] at hx
      rcases hx with hx | hx
      · obtain ⟨q, hq, e1, e2⟩ := hes x hx
        refine ⟨q, List.mem_append_left _ hq, e1, ?_⟩
        have hne : p ≠ q := fun e => f2 x hx (by rw [e1, e])
        rw [e2, List.count_append, List.count_singleton, if_neg (by simpa using hne)]
        simp
      · refine ⟨p, by simp, by rw [hx], ?_⟩
        rw [hx, List.count_append, hc]
        simp
    · rw [he2, Array.toList_push]
      rcases List.mem_append.1 hq with hq | hq
      · obtain ⟨x, hx, e⟩ := hall q hq
        exact ⟨x, by simp [hx], e⟩
      · rw [List.mem_singleton.1 hq]
        exact ⟨⟨key2 p, .int .i64 1, clock⟩, by simp, rfl⟩
  · obtain ⟨q, hq, e1, e2⟩ := hes e0 (List.mem_of_getElem? f2)
    have hpq : q = p := key2_inj (e1.symm.trans f3)
    rw [hpq] at e2 hq
    have hj : es[j]? = some e0 := by simpa using f2
    have hjl : j < es.toList.length := (List.getElem?_eq_some_iff.1 f2).1
    have hsame : es.modify j (fun e => { e with key := key2 p }) = es := by
      apply Array.ext'
      rw [Array.toList_modify, ChangeMaps.modify_eq_set _ _ _ _ f2]
      have : ({ e0 with key := key2 p } : MapEntry) = e0 := by rw [← f3]
      rw [this]
      exact WideElems.set_self _ _ _ f2
    obtain ⟨W1, hW1⟩ : ∃ W1, W1 = ChangeMaps.setBlock w b (.map es clock) := ⟨_, rfl⟩
    have hb1 : W1.heap[b]? = some (.map es clock) := by rw [hW1]; exact hat _ _ _ hb
    have hg1 : Grew (fun j => j = b) w W1 := by rw [hW1]; exact hgr _ _ (Grew.refl _ _)
    have hr1 : (Instr.mapEntry 112 (.map (some b)) (key2 p)).run Tryd.prog w = .ok (.tuple #[e0.val, .int .i64 (e0.born : Int)]) W1 := by
      rw [hW1]
      simp [Instr.mapEntry, run_underlying ht, MapKept.run_getObj_map hb, K.check w false hkey, f1, hj, f3, K.stays w hkey, hsame, MapKept.run_setObj_map _ hb, Result.andThen, ChangeMaps.setBlock, goInt]
    have hlook := (MapN.mk h.small ⟨es, clock, hb1, ⟨s1, s2, s3⟩, hz, hes, hall⟩ : MapN W1 b tr).look h1 h2
    obtain ⟨V, hV⟩ : ∃ V : Value, V = .int .i64 ((tr.count p : Int) + 1) := ⟨_, rfl⟩
    obtain ⟨es2, he2⟩ : ∃ es2, es2 = es.modify j (fun e => { e with val := V }) := ⟨_, rfl⟩
    have hl2 : es2.toList = es.toList.set j { e0 with val := V } := by
      rw [he2, Array.toList_modify, ChangeMaps.modify_eq_set _ _ _ _ f2]
    obtain ⟨W2, hW2⟩ : ∃ W2, W2 = ChangeMaps.setBlock W1 b (.map es2 clock) := ⟨_, rfl⟩
    have hb2 : W2.heap[b]? = some (.map es2 clock) := by rw [hW2]; exact hat _ _ _ hb1
    have hg2 : Grew (fun j => j = b) w W2 := by rw [hW2]; exact hgr _ _ hg1
    have hidx : es.findIdx? (fun e => ((e.born : Nat) : Int) == ((e0.born : Nat) : Int)) = some j := by
      rw [WideElems.findIdx_arr]
      exact WideElems.findIdx_born s2 f2
    have hr2 : (Instr.entryStore 112 (.map (some b)) (.int .i64 (e0.born : Int)) (.int .i64 ((tr.count p : Int) + 1))).run Tryd.prog W1 = .ok () W2 := by
      rw [hW2, he2, ← hV]
      simp [Instr.entryStore, MapKept.run_getObj_map hb1, asInt, asIntOf, hidx, MapKept.run_setObj_map _ hb1, Result.andThen, ChangeMaps.setBlock]
    have hst2 : MapKept.Stamped es2 clock := by
      rw [he2]
      exact MapKept.stamped_modify ⟨s1, s2, s3⟩ j _ (fun e _ => rfl) (fun e _ _ => rfl)
    have hnd := s3
    refine ⟨e0.val, e0.born, W1, hr1, hg1, hlook, W2, hr2, hg2, MapN.mk2 hsm hb2 hst2 (by rw [he2]; simp; omega) (fun x hx => ?_) (fun q hq => ?_)⟩
    · rw [hl2] at hx
      obtain ⟨i, hi, ex⟩ := List.mem_iff_getElem.1 hx
      rw [List.getElem_set] at ex
      by_cases hij : j = i
      · rw [if_pos hij] at ex
        refine ⟨p, by simp, by rw [← ex]; exact f3, ?_⟩
        rw [← ex, List.count_append]
        simp [hV]
      · rw [if_neg hij] at ex
        have hil : i < es.toList.length := by simpa using hi
        have hxm : x ∈ es.toList := by rw [← ex]; exact List.getElem_mem _
        obtain ⟨q', hq', g1, g2⟩ := hes x hxm
        have hne : p ≠ q' := fun e => by
          have hk1 : (es.toList.map (·.key))[i]'(by simpa using hil) = key2 p := by rw [List.getElem_map, ex, g1, e]
          have hk2 : (es.toList.map (·.key))[j]'(by simpa using hjl) = key2 p := by
            rw [List.getElem_map]
            have : es.toList[j] = e0 := by
              rw [List.getElem?_eq_getElem hjl] at f2
              exact Option.some.inj f2
            rw [this, f3]
          rcases Nat.lt_or_gt_of_ne hij with hlt | hlt
          · exact List.pairwise_iff_getElem.1 hnd j i (by simpa using hjl) (by simpa using hil) hlt (hk2.trans hk1.symm)
          · exact List.pairwise_iff_getElem.1 hnd i j (by simpa using hil) (by simpa using hjl) hlt (hk1.trans hk2.symm)
        refine ⟨q', List.mem_append_left _ hq', g1, ?_⟩
        rw [g2, List.count_append, List.count_singleton, if_neg (by simpa using hne)]
        simp
    · have hkeep : ∀ x ∈ es.toList, ∃ y ∈ es2.toList, y.key = x.key := fun x hx => by
        obtain ⟨i, hi, ex⟩ := List.mem_iff_getElem.1 hx
        rw [hl2]
        by_cases hij : j = i
        · subst hij
          refine ⟨{ e0 with val := V }, List.mem_iff_getElem.2 ⟨j, by simpa using hi, by simp⟩, ?_⟩
          rw [List.getElem?_eq_getElem hi] at f2
          have := Option.some.inj f2
          rw [← ex, this]
        · exact ⟨x, List.mem_iff_getElem.2 ⟨i, by simpa using hi, by rw [List.getElem_set, if_neg hij]; exact ex⟩, rfl⟩
      have hqt : q ∈ tr := by
        rcases List.mem_append.1 hq with hq | hq
        · exact hq
        · rw [List.mem_singleton.1 hq]; assumption
      obtain ⟨x, hx, e⟩ := hall q hqt
      obtain ⟨y, hy, e'⟩ := hkeep x hx
      exact ⟨y, hy, e'.trans e⟩
end Go.Proofs.YtemakpjickbmnaaDoor

/- machine.Met$1: one instruction more is met. -/
namespace Go.Proofs.YtemakpjickbmnaaDoor
open Go.RowKit
set_option linter.unusedSimpArgs false
set_option linter.unusedVariables false

set_option maxRecDepth 100000 in
set_option maxHeartbeats 2000000 in
theorem Met1_calls (w : World) (mb b r k : Nat) (tr : List (Nat × Nat)) (hm : w.heap[mb]? = some (.cells #[.map (some b)] 112 (0, 0))) (hne : mb ≠ b) (h : MapN w b tr) (hr : r ≤ 1000000) (hk : k ≤ 1000000) (hlen : tr.length < 900000) (R : Ending → World → Prop) (hR : ∀ w', MapN w' b (tr ++ [(r, k)]) → Grew (fun j => j = b) w w' → R (.returned (.tuple #[])) w') :
    Calls Tryd.prog 52 #[.int .i64 (r : Int), .int .i64 (k : Int), .pointer (some ⟨mb, 0, none⟩)] w R := by
  have HR := Lib.hid hR
  have hd : MapN w.drew b tr := h.keep rfl
  have hlook := hd.look (p := (r, k)) hr hk
  obtain ⟨v0, st, W1, hr1, hg1, hlook1, W2, hr2, hg2, hN2⟩ := hd.entry (p := (r, k)) hr hk
  have hc := List.count_le_length (a := (r, k)) (l := tr)
  have q0 : w.cell? ⟨mb, 0, none⟩ = some (.map (some b)) := by simp [World.cell?, hm]
  have lm := blk_lt hm
  have q1 : W1.cell? ⟨mb, 0, none⟩ = some (.map (some b)) := by
    have : W1.heap[mb]? = _ := (hg1.block mb lm hne).trans hm
    simp [World.cell?, this]
  have lm1 : mb < W1.heap.size := Nat.lt_of_lt_of_le lm hg1.size
  simp only [key2] at hlook hr1 hlook1 hr2
  obtain ⟨c, hcc⟩ : ∃ c, tr.count (r, k) = c := ⟨_, rfl⟩
  rw [hcc] at hlook hlook1 hr2 hc
  have hc2 : (c : Int) ≤ 900000 := by omega
  have Hfin := Lib.hid (HR.out W2 hN2 ⟨hg2.os, hg2.tape, hg2.output, hg2.size, hg2.block⟩)
  clear hR h hd hN2 hg1 hg2 hm hcc hc hlen HR
  go_enter Tryd.func52, Tryd.ntmps52
  go_wp2_with fail
  go_region
  all_goals
    go_wp2
    go_end0
    exact Hfin.out
end Go.Proofs.YtemakpjickbmnaaDoor

/- machine.Met: how often each instruction was met. -/
namespace Go.Proofs.YtemakpjickbmnaaDoor
open Go.RowKit
set_option linter.unusedSimpArgs false
set_option linter.unusedVariables false

def cntA (tr : List (Nat × Nat)) (i m j : Nat) : List Int := (List.range m).map fun k => if k < j then (tr.count (i, k) : Int) else 0
def cntL (tr : List (Nat × Nat)) (i m : Nat) : List Int := (List.range m).map fun k => (tr.count (i, k) : Int)
def cntT (tr : List (Nat × Nat)) (cs : List (List Mac)) (n : Nat) : List (List Int) := (List.range n).map fun i => cntL tr i (cs.getD i []).length
theorem cntA_len (tr : List (Nat × Nat)) (i m j : Nat) : (cntA tr i m j).length = m := by simp [cntA]
theorem cntA_first (tr : List (Nat × Nat)) (i m : Nat) : cntA tr i m 0 = List.replicate m 0 := by
  apply List.ext_getElem (by simp [cntA])
  intro k h1 h2
  simp [cntA]
theorem cntA_last (tr : List (Nat × Nat)) (i m : Nat) : cntA tr i m m = cntL tr i m := by
  apply List.ext_getElem (by simp [cntA, cntL])
  intro k h1 h2
  have : k < m := by simpa [cntA] using h1
  simp [cntA, cntL, this]
theorem cntA_step (tr : List (Nat × Nat)) (i m j : Nat) : (cntA tr i m j).set j (tr.count (i, j) : Int) = cntA tr i m (j + 1) := by
  apply List.ext_getElem (by simp [cntA])
  intro k h1 h2
  rw [List.getElem_set]
  by_cases e : j = k
  · subst e
    simp [cntA]
  · rw [if_neg e]
    simp only [cntA, List.getElem_map, List.getElem_range]
    by_cases h : k < j
    · rw [if_pos h, if_pos (by omega)]
    · rw [if_neg h, if_neg (by omega)]
theorem cntT_len (tr : List (Nat × Nat)) (cs : List (List Mac)) (n : Nat) : (cntT tr cs n).length = n := by simp [cntT]
theorem cntT_step (tr : List (Nat × Nat)) (cs : List (List Mac)) (n : Nat) : cntT tr cs (n + 1) = cntT tr cs n ++ [cntL tr n (cs.getD n []).length] := by
  unfold cntT
  rw [List.range_succ, List.map_append]
  rfl
def intsA (xs : List Int) : Array Value := (xs.map (Value.int .i64)).toArray
theorem intsA_set (xs : List Int) (j : Nat) (y : Int) : (intsA xs).setIfInBounds j (.int .i64 y) = intsA (xs.set j y) := by
  unfold intsA
  apply Array.ext'
  simp [List.map_set]
theorem intsA_get {xs : List Int} {j : Nat} (h : j < xs.length) : (intsA xs)[j]? = some (.int .i64 xs[j]) := by
  unfold intsA
  simp [h]
theorem make_ints (W : World) (n : Nat) (hn : n ≤ 5000) : (Instr.makeSlice 22 (.int .i64 (n : Int)) (.int .i64 (n : Int))).run Tryd.prog W = .ok (.slice (some ⟨W.heap.size, 0, none⟩) n n) (W.alloc (.cells (intsA (List.replicate n 0)) 3)) := by
  obtain ⟨iB, hi, z0, z1, z2⟩ := info_parts info_int3
  have h := run_make (P := Tryd.prog) W 22 3 iB _ Tryd.underlying22 hi z0 .i64 .i64 (n : Int) (n : Int) (by omega) (Int.le_refl _) (by rw [z2]; omega) (by omega)
  rw [z1] at h
  simp only [Int.toNat_natCast, Nat.mul_one] at h
  have e : madeCells (Value.int .i64 0).cells n = intsA (List.replicate n 0) := by
    unfold madeCells intsA
    apply Array.ext
    · simp
    · intro i h1 h2
      simp [Value.cells, Nat.mod_one]
  rw [e] at h
  exact h
theorem info_ints_ : (Tryd.prog.info? 22).map (fun i => (i.zero, i.size, i.bytes)) = some (some (.slice none 0 0), 1, 24) := by kernel_rfl
theorem Rp.SL.slice_at_ {α : Type} {r : Rp α} {w : World} {B : Nat} {xs : List (List α)} {A : Option Addr} {n c k : Nat} (h : r.slice.SL w B xs (.slice A n c)) (hk : k < xs.length) : ∃ b off u, A = some ⟨b, off, none⟩ ∧ b < B ∧ w.cell? ⟨b, off + k, none⟩ = some u ∧ r.SL w B xs[k] u := by
  obtain ⟨b, off, cs, hA, hb, ⟨u, rfl, hr⟩, hcs⟩ := h.at_ (List.getElem?_eq_getElem hk)
  refine ⟨b, off, u, hA, hb, ?_, hr⟩
  have := hcs 0 _ rfl
  simpa [Rp.slice] using this
theorem alloc_new_any (W : World) (o : Obj) : (W.alloc o).heap[W.heap.size]? = some o := heap_alloc_new W o
theorem own_intsA {w : World} {g base : Nat} {xs : List Int} (h : w.heap[g]? = some (.cells (intsA xs) 3 (0, 0))) (hb : base ≤ g) (hl : xs.length ≤ 5000) : w.ownsRow base 3 1 (.slice (some ⟨g, 0, none⟩) xs.length xs.length) xs.length (xs.flatMap intCells) := by
  refine ⟨by rw [flat_length intCells 1 (fun _ => rfl)], .inr ⟨g, xs.length, _, rfl, hb, h, Nat.le_refl _, by unfold maxLen; omega, by simp [intsA], ?_⟩⟩
  have e : xs.flatMap intCells = xs.map (Value.int .i64) := by
    clear h hl
    induction xs with
    | nil => rfl
    | cons x xs ih => rw [List.flatMap_cons, List.map_cons, ih]; rfl
  rw [e]
  unfold intsA
  rw [List.take_of_length_le (by simp)]
/-- Met$1 is what run's caller has to hand over. -/
theorem Met1_meets (w : World) (mb b : Nat) (hb : b < w.heap.size) (hmb : mb < w.heap.size) (hne : mb ≠ b) :
    Meets 52 #[.pointer (some ⟨mb, 0, none⟩)] w (fun k => k == b) (fun W tr => MapN W b tr ∧ W.heap[mb]? = some (.cells #[.map (some b)] 112 (0, 0))) where
  enters := ⟨Tryd.f52, Tryd.func52, by kernel_rfl, by kernel_rfl⟩
  low := fun k h => by simp at h; omega
  keep := fun W W' tr h _ hB => ⟨h.1.keep (hB.block b hb), (hB.block mb hmb).trans h.2⟩
  call := fun W tr r k R h hz hlen hr hk hR => by
    show Calls Tryd.prog 52 #[.int .i64 (r : Int), .int .i64 (k : Int), .pointer (some ⟨mb, 0, none⟩)] W R
    exact Met1_calls W mb b r k tr h.2 hne h.1 hr hk hlen R fun W' h1 h2 => hR W' ⟨h1, (h2.block mb (by omega) hne).trans h.2⟩ (h2.more fun j _ e => by simp [e])
set_option maxRecDepth 100000 in
set_option maxHeartbeats 8000000 in
theorem Met_calls (im : Image) (v1 v2 vi : Value) (inp : List Int) (fuel : Nat) (w : World) (h1 : rpGlobal.SL w w.heap.size im.globals v1) (h2 : rpRoutine.SL w w.heap.size im.routines v2) (ok : ImgOk im) (hS : Shapes w)
    (hin : rpInt.SL w w.heap.size inp vi) (hfuel : fuel ≤ 900000) (hlen : inp.length ≤ 30) (R : Ending → World → Prop)
    (hR : ∀ w' vt vo, Below w.heap.size w w' → rpInt.slice.SLF w' w.heap.size w'.heap.size (cntT (metM (codesI im) fuel (beginM (memI im.globals) inp)) (codesI im) (codesI im).length) vt → rpInt.SLF w' w.heap.size w'.heap.size (runO im inp fuel).out vo →
      R (.returned (.tuple #[vt, .agg #[.int .i64 (runO im inp fuel).st, .int .i64 (runO im inp fuel).val, vo, .int .i64 ((runO im inp fuel).steps : Int)], .agg #[.int .i64 0, .int .i64 0]])) w') :
    Calls Tryd.prog 30 #[.agg #[v1, v2], vi, .int .i64 (fuel : Int)] w R := by
  have h0 := hS.1
  obtain ⟨A1, c1, rfl, _, _, h1⟩ := h1.cases_
  obtain ⟨A2, c2, rfl, _, hcap2, h2⟩ := h2.cases_
  have HR := Lib.hid hR
  have HSh := Lib.hid hS
  have Hok := Lib.hid ok
  have HG := Lib.hid h1
  have HT := Lib.hid h2
  have Hin := Lib.hid hin
  obtain ⟨Z, hZ⟩ : ∃ Z, Z = w.heap.size := ⟨_, rfl⟩
  obtain ⟨W0, hW0⟩ : ∃ W0, W0 = ((((w.alloc (Obj.cells #[.slice A1 im.globals.length c1, .slice A2 im.routines.length c2] 50)).alloc (Obj.cells #[.int .i64 0, .int .i64 0, .slice none 0 0, .int .i64 0] 44)).alloc (Obj.cells #[.int .i64 0, .int .i64 0] 25)).alloc (.map #[] 0)).alloc (Obj.cells #[.map (some (w.heap.size + 3))] 112) := ⟨_, rfl⟩
  have hb0 : Below w.heap.size w W0 := by subst hW0; exact bl0
  have hI : W0.heap[w.heap.size]? = some (.cells #[.slice A1 im.globals.length c1, .slice A2 im.routines.length c2] 50 (0, 0)) := by
    subst hW0
    exact blk_alloc (blk_alloc (blk_alloc (blk_alloc (heap_alloc_new _ _) _) _) _) _
  have hO : W0.heap[w.heap.size + 1]? = some (.cells #[.int .i64 0, .int .i64 0, .slice none 0 0, .int .i64 0] 44 (0, 0)) := by
    subst hW0
    refine blk_alloc (blk_alloc (blk_alloc ?_ _) _) _
    have := heap_alloc_new (w.alloc (Obj.cells #[.slice A1 im.globals.length c1, .slice A2 im.routines.length c2] 50)) (Obj.cells #[.int .i64 0, .int .i64 0, .slice none 0 0, .int .i64 0] 44)
    simpa using this
  have hF : W0.heap[w.heap.size + 2]? = some (.cells #[.int .i64 0, .int .i64 0] 25 (0, 0)) := by
    subst hW0
    refine blk_alloc (blk_alloc ?_ _) _
    have := heap_alloc_new ((w.alloc (Obj.cells #[.slice A1 im.globals.length c1, .slice A2 im.routines.length c2] 50)).alloc (Obj.cells #[.int .i64 0, .int .i64 0, .slice none 0 0, .int .i64 0] 44)) (Obj.cells #[.int .i64 0, .int .i64 0] 25)
    simpa using this
  have hM : W0.heap[w.heap.size + 3]? = some (.map #[] 0) := by
    subst hW0
    refine blk_alloc ?_ _
    have := alloc_new_any (((w.alloc (Obj.cells #[.slice A1 im.globals.length c1, .slice A2 im.routines.length c2] 50)).alloc (Obj.cells #[.int .i64 0, .int .i64 0, .slice none 0 0, .int .i64 0] 44)).alloc (Obj.cells #[.int .i64 0, .int .i64 0] 25)) (.map #[] 0)
    simpa using this
  have hMB : W0.heap[w.heap.size + 4]? = some (.cells #[.map (some (w.heap.size + 3))] 112 (0, 0)) := by
    subst hW0
    have := heap_alloc_new ((((w.alloc (Obj.cells #[.slice A1 im.globals.length c1, .slice A2 im.routines.length c2] 50)).alloc (Obj.cells #[.int .i64 0, .int .i64 0, .slice none 0 0, .int .i64 0] 44)).alloc (Obj.cells #[.int .i64 0, .int .i64 0] 25)).alloc (.map #[] 0)) (Obj.cells #[.map (some (w.heap.size + 3))] 112)
    simpa using this
  have hz0 : W0.heap.size = w.heap.size + 5 := by subst hW0; simp
  have hN0 : MapN W0 (w.heap.size + 3) [] := ⟨fun p h => by simp at h, #[], 0, hM, ⟨fun x h => by simp at h, by simp, by simp⟩, by simp, fun x h => by simp at h, fun p h => by simp at h⟩
  obtain ⟨i0, i1⟩ := cells_blk hI
  have HW0 := Lib.hid hW0.symm
  have Hb0 := Lib.hid hb0
  have HO := Lib.hid hO
  have HF := Lib.hid hF
  have HN0 := Lib.hid (And.intro hN0 hMB)
  have hlI := blk_lt hI
  clear hR hS ok h1 h2 hin hW0 hb0 hI hO hF hM hMB hN0
  have hmm := @run_makeMap Tryd.prog
  go_enter Tryd.func30, Tryd.ntmps30
  go_upto_region 2 with fail
  rw [HW0.out]
  go_wp2_with fail
  have hin0 : rpInt.SL (only W0 fun k => !(k == w.heap.size + 3)) W0.heap.size inp vi := (Rp.SL.mono Hin.out fun p u _ hc => by
    have hl := World.block_lt_of_cell? w _ hc
    rw [only_cell_of _ _ _ (by simp; omega)]
    exact (Hb0.out.cell hl).trans hc).more Hb0.out.size
  refine run_calls im _ _ vi inp fuel 52 #[.pointer (some ⟨w.heap.size + 4, 0, none⟩)] (fun k => k == w.heap.size + 3) (fun W tr => MapN W (w.heap.size + 3) tr ∧ W.heap[w.heap.size + 4]? = some (.cells #[.map (some (w.heap.size + 3))] 112 (0, 0))) _ (HG.out.up Hb0.out Hb0.out.size) (HT.out.up Hb0.out Hb0.out.size) Hok.out (HSh.out.up Hb0.out h0) hin0 hfuel hlen (Met1_meets _ _ _ (by omega) (by omega) (by omega)) HN0.out _ (fun w1 vc vo hg1 hm1 hvc hvo => ?_)
  have hb1 : Below w.heap.size W0 w1 := hg1.below (fun k hk h => by simp at h; omega) (by omega)
  have hO1 : w1.heap[w.heap.size + 1]? = some (.cells #[.int .i64 0, .int .i64 0, .slice none 0 0, .int .i64 0] 44 (0, 0)) := (hg1.block _ (by omega) (by simp)).trans HO.out
  have hF1 : w1.heap[w.heap.size + 2]? = some (.cells #[.int .i64 0, .int .i64 0] 25 (0, 0)) := (hg1.block _ (by omega) (by simp)).trans HF.out
  obtain ⟨Ac, nc, rfl, _, hcapc, hvc⟩ := hvc.cases_
  have hvo3 : rpInt.SLF w1 W0.heap.size w1.heap.size (runO im inp fuel).out vo := hvo
  obtain ⟨Ao, no, rfl, _, _, hvo4⟩ := hvo3.cases_
  have HR2 := HR.out
  have Hcok := Lib.hid (img_codes Hok.out)
  have Hmlen := metM_len (codesI im) fuel (beginM (memI im.globals) inp)
  clear HR hvo hvo3 HN0 HG HT Hin HW0 HO HF hmm i0 i1 hlI hin0
  simp only [show outM (runM (codesI im) fuel (beginM (memI im.globals) inp)) = runO im inp fuel from rfl]
  generalize runO im inp fuel = O at *
  generalize metM (codesI im) fuel (beginM (memI im.globals) inp) = tr at *
  generalize codesI im = cs at *
  obtain ⟨hN1, hMB1⟩ := hm1
  obtain ⟨W1, hW1⟩ : ∃ W1, W1 = (w1.alloc (Obj.cells #[.int .i64 O.st, .int .i64 O.val, .slice Ao O.out.length no, .int .i64 (O.steps : Int)] 44)).alloc (Obj.cells #[.int .i64 0, .int .i64 0] 25) := ⟨_, rfl⟩
  have hbW1 : Below w1.heap.size w1 W1 := by subst hW1; exact bl0
  have hE : W1.heap[w1.heap.size]? = some (.cells #[.int .i64 O.st, .int .i64 O.val, .slice Ao O.out.length no, .int .i64 (O.steps : Int)] 44 (0, 0)) := by subst hW1; exact blk_alloc (heap_alloc_new _ _) _
  have hE2 : W1.heap[w1.heap.size + 1]? = some (.cells #[.int .i64 0, .int .i64 0] 25 (0, 0)) := by
    subst hW1
    have := heap_alloc_new (w1.alloc (Obj.cells #[.int .i64 O.st, .int .i64 O.val, .slice Ao O.out.length no, .int .i64 (O.steps : Int)] 44)) (Obj.cells #[.int .i64 0, .int .i64 0] 25)
    simpa using this
  have hbb := hb1.trans (hbW1.mono (Nat.le_trans Hb0.out.size hb1.size))
  have hlt1 := fun (k : Nat) (o : Obj) (h : w1.heap[k]? = some o) => (Array.getElem?_eq_some_iff.1 h).1
  have HO1 := Lib.hid ((hbW1.block _ (blk_lt hO1)).trans hO1)
  have HF1 := Lib.hid ((hbW1.block _ (blk_lt hF1)).trans hF1)
  have HMB1 := Lib.hid ((hbW1.block _ (blk_lt hMB1)).trans hMB1)
  obtain ⟨es, clk, hmb, _⟩ := id hN1.ex
  have hlm : w.heap.size + 3 < w1.heap.size := hlt1 _ _ hmb
  have HN1 := Lib.hid (hN1.keep (hbW1.block _ hlm))
  have HC1 := Lib.hid (hvc.SL.up hbW1 hbW1.size)
  have Hvo1 := Lib.hid (hvo4.below hbW1 (Nat.le_refl _))
  have Hbb := Lib.hid (Hb0.out.trans hbb)
  have HE := Lib.hid hE
  have HE2 := Lib.hid hE2
  have hz01 : W0.heap.size ≤ w1.heap.size := hb1.size
  have hlE := blk_lt hE
  have hlE2 := blk_lt hE2
  have HR3 := Lib.hid HR2
  obtain ⟨e0, e1⟩ := cells_blk hE2
  have HW1 := Lib.hid hW1.symm
  clear hW1 hbW1 hbb hlt1 hO1 hF1 hN1 hMB1 hmb hvc hvo4 hE hE2 hg1 hb1 HR2
  go_upto_region 3 with fail
  rw [HW1.out]
  go_wp2_with fail
  go_loopg [13, 35] cs.length (fun gh s13 s35 wr => ∃ (k : Nat) (css : List (List Value)), k ≤ cs.length ∧ gh = cs.length - k ∧ s35 = .int .i64 (k : Int) ∧ Hid (Built rpInt.slice W1.heap.size 22 (fun b => b < W1.heap.size) wr s13 (cntT tr cs k) css) ∧ Hid (Below W1.heap.size W1 wr))
  case atStart => exact ⟨0, [], Nat.zero_le _, rfl, rfl, Lib.hid (Built.nil _ _ _ _ _ (fun _ h => h)), Lib.hid (Below.refl _ _)⟩
  case round =>
    obtain ⟨k, css, hk, rfl, rfl, Hbu, Hbel⟩ := hrel
    obtain ⟨wo, rfl⟩ : ∃ x, x = wr := ⟨_, rfl⟩
    have hz := Hbel.out.size
    have k0 : (0 : Int) ≤ (k : Int) := Int.natCast_nonneg _
    obtain ⟨A7, n7, hs7⟩ := own_slice Hbu.out.own
    rw [cntT_len] at hs7
    subst hs7
    by_cases hlt : k < cs.length
    · obtain ⟨b, off, u, rfl, hb, q0, hrow⟩ := HC1.out.slice_at_ hlt
      obtain ⟨Br, nr, rfl, hmr, _, hrow⟩ := hrow.cases_
      have hf5 := (Hcok.out.each k _ (List.getElem?_eq_getElem hlt)).few
      have hk40 := Hcok.out.few
      obtain ⟨m, hm⟩ : ∃ m, m = cs[k].length := ⟨_, rfl⟩
      rw [← hm] at q0 hf5 hmr
      have Hm := Lib.hid hm
      clear hm
      have p0 := (Hbel.out.cell (p := ⟨b, off + k, none⟩) hb).trans q0
      have k1 : (k : Int) < (cs.length : Int) := by omega
      have hmk := make_ints wo m hf5
      have m0 : (0 : Int) ≤ (m : Int) := Int.natCast_nonneg _
      have hnew : (wo.alloc (.cells (intsA (List.replicate m 0)) 3)).heap[wo.heap.size]? = some (.cells (intsA (cntA tr k m 0)) 3 (0, 0)) := by rw [cntA_first]; exact heap_alloc_new _ _
      have Hnew := Lib.hid hnew
      have Hbn : Hid (Below wo.heap.size wo (wo.alloc (.cells (intsA (List.replicate m 0)) 3))) := Lib.hid (by exact bl0)
      obtain ⟨Wn, hWn⟩ : ∃ Wn, Wn = wo.alloc (.cells (intsA (List.replicate m 0)) 3) := ⟨_, rfl⟩
      rw [← hWn] at hmk Hnew Hbn
      clear hnew hWn q0 hrow e0 e1
      have hgz : wo.heap.size < Wn.heap.size := blk_lt Hnew.out
      go_wp2_with fail
      go_loopg [45] m (fun gh s45 wr => ∃ (j : Nat), j ≤ m ∧ gh = m - j ∧ s45 = .int .i64 (j : Int) ∧ Hid (wr.heap[wo.heap.size]? = some (.cells (intsA (cntA tr k m j)) 3 (0, 0))) ∧ Hid (Below wo.heap.size wo wr))
      case atStart => exact ⟨0, Nat.zero_le _, rfl, rfl, Hnew, Hbn⟩
      case round =>
        obtain ⟨j, hj, rfl, rfl, Hb6, Hx6⟩ := hrel
        have j0 : (0 : Int) ≤ (j : Int) := Int.natCast_nonneg _
        have lX := blk_lt Hb6.out
        clear hmk p0
        by_cases hjl : j < m
        · have j1 : (j : Int) < (m : Int) := by omega
          have hN6 : MapN wr (w.heap.size + 3) tr := HN1.out.keep ((Hx6.out.block _ (by omega)).trans (Hbel.out.block _ (by omega)))
          have hlook := hN6.look (p := (k, j)) (by show k ≤ _; omega) (by show j ≤ _; omega)
          simp only [key2] at hlook
          have hM6 := (Hx6.out.block _ (by have := blk_lt HMB1.out; omega)).trans ((Hbel.out.block _ (blk_lt HMB1.out)).trans HMB1.out)
          have q6 : wr.cell? ⟨w.heap.size + 4, 0, none⟩ = some (.map (some (w.heap.size + 3))) := by rw [blk_cell hM6]; rfl
          have q7 : wr.cell? ⟨wo.heap.size, j, none⟩ = some (.int .i64 ((cntA tr k m j)[j]'(by rw [cntA_len]; exact hjl))) := by rw [blk_cell Hb6.out]; exact intsA_get _
          have q8 : wr.frozen? ⟨wo.heap.size, j, none⟩ = false := by simp [World.frozen?, Hb6.out]
          have Hb7 : Hid ((wr.setCell ⟨wo.heap.size, j, none⟩ (.int .i64 (tr.count (k, j) : Int))).heap[wo.heap.size]? = some (.cells (intsA (cntA tr k m (j + 1))) 3 (0, 0))) := Lib.hid (by rw [block_set Hb6.out, intsA_set, cntA_step])
          have Hx7 : Hid (Below wo.heap.size wo (wr.setCell ⟨wo.heap.size, j, none⟩ (.int .i64 (tr.count (k, j) : Int)))) := Lib.hid (Hx6.out.setCell (p := ⟨wo.heap.size, j, none⟩) (Nat.le_refl _) _)
          clear hN6 hM6
          go_wp2
          go_roundg (m - (j + 1))
          case measure => omega
          case rel => exact ⟨j + 1, hjl, rfl, by go_num, Hb7, Hx7⟩
        · obtain rfl : j = m := by omega
          have j1 : ¬ (j : Int) < (j : Int) := by omega
          rw [cntA_last] at Hb6
          obtain ⟨C, hC⟩ : ∃ C, C = cntL tr k j := ⟨_, rfl⟩
          have HCl : Hid (C.length = j) := Lib.hid (by rw [hC]; simp [cntL])
          have HCt : Hid (cntT tr cs (k + 1) = cntT tr cs k ++ [C]) := Lib.hid (by rw [cntT_step, hC, Hm.out, List.getD_eq_getElem?_getD, List.getElem?_eq_getElem hlt]; rfl)
          rw [← hC] at Hb6
          obtain ⟨X, hX⟩ : ∃ X, X = Obj.cells #[.slice (some ⟨wo.heap.size, 0, none⟩) j j] 22 := ⟨_, rfl⟩
          have HBu0 := Lib.hid ((Hbu.out.below Hx6.out (Nat.le_refl _)).alloc X)
          have HBo : Hid ((wr.alloc X).ownsRow W1.heap.size 22 1 (.slice A7 k n7) k css.flatten) := Lib.hid (by have := HBu0.out.own; rw [cntT_len] at this; exact this)
          have Hgr : Hid ((wr.alloc X).heap[wo.heap.size]? = some (.cells (intsA C) 3 (0, 0))) := Lib.hid (blk_alloc Hb6.out _)
          have Hap : Hid (Apart rpInt.slice (fun b => b < W1.heap.size) (wr.alloc X) (.slice A7 k n7) C [.slice (some ⟨wo.heap.size, 0, none⟩) j j]) := Lib.hid (Apart.of_only (base := wo.heap.size) ⟨_, rfl, by
              have h := own_intsA (w := only (wr.alloc X) fun k => decide (wo.heap.size ≤ k)) (base := wo.heap.size) (by rw [only_heap _ _ _ (by simp)]; exact Hgr.out) (Nat.le_refl _) (by rw [HCl.out]; exact hf5)
              rw [HCl.out] at h
              have h' := SLint_own (xs := C) (by rw [HCl.out]; exact h) (Nat.le_refl _)
              rw [only_size] at h'
              exact h'⟩ (fun j hj => by show j < wo.heap.size; omega) (fun j hj => (Hbu.out.own.lt j hj).2))
          have hz6 := Hx6.out.size
          have HbX : Hid (Below wo.heap.size wo (wr.alloc X)) := Lib.hid (Hx6.out.alloc hz6 X)
          obtain ⟨iB, hiB, zB0, zB1, zB2⟩ := info_parts info_ints_
          subst hX
          clear hC
          go_wp2_with (at_builtin; refine wpList_append_lies _ rfl _ _ 32 rfl W1.heap.size 22 iB _ 1 24 Tryd.underlying32 hiB zB0 zB1 zB2 rfl (by decide) (.slice A7 k n7) k css.flatten rfl HBo.out ⟨wr.heap.size, 0, none⟩ 1 1 [.slice (some ⟨wo.heap.size, 0, none⟩) j j] rfl rfl ?_ ?_ (by decide) ?_ ?_ ?_ _ rfl ?_)
          any_goals (first | exact World.news_of_block (cs := #[.slice (some ⟨wo.heap.size, 0, none⟩) j j]) (t := 22) (fr := (0, 0)) (heap_alloc_new _ _) | (simp [Value.oneCell']; done) | (unfold maxLen; omega) | omega | (simp; done) | (simp; omega))
          intro gb cap w9 hown9 hgrow9 hat9 hlt9
          have HB9 := Lib.hid (HBu0.out.push hown9 (by rw [cntT_len]) hgrow9 (by simpa using hat9) Hap.out)
          have Hbel9 := Lib.hid (Hbel.out.trans ((HbX.out.mono hz).trans ((Grew.of_grown hgrow9).below (B := W1.heap.size) (fun i hi e => by have := (Hbu.out.own.lt i e).1; omega) (by simp; omega))))
          clear hown9 hgrow9 hat9 hlt9
          go_wp2
          go_roundg (cs.length - (k + 1))
          case measure => omega
          case rel => exact ⟨k + 1, _, hlt, rfl, by go_num, Lib.hid (by rw [HCt.out]; exact HB9.out), Hbel9⟩
    · obtain rfl : k = cs.length := by omega
      have k1 : ¬ (cs.length : Int) < (cs.length : Int) := by omega
      have hsl : rpInt.slice.SLF wo W1.heap.size wo.heap.size (cntT tr cs cs.length) (.slice A7 cs.length n7) := Hbu.out.SLF (fun k h => h) (Nat.le_refl _) (Nat.le_refl _)
      have hOo := (Hbel.out.block _ (blk_lt HO1.out)).trans HO1.out
      have hFo := (Hbel.out.block _ (blk_lt HF1.out)).trans HF1.out
      have hEo := (Hbel.out.block _ hlE).trans HE.out
      have hE2o := (Hbel.out.block _ hlE2).trans HE2.out
      obtain ⟨g1, g2, g3⟩ := finW_facts (.int .i64 O.st) (.int .i64 O.val) (.slice Ao O.out.length no) (.int .i64 (O.steps : Int)) hOo hFo
      have hbq : Below w.heap.size wo (finW wo w.heap.size (.int .i64 O.st) (.int .i64 O.val) (.slice Ao O.out.length no) (.int .i64 (O.steps : Int))) := g3.below (fun k hk => by omega) (by have := Hbb.out.size; omega)
      have hbe := (Hbb.out.trans (Hbel.out.mono Hbb.out.size)).trans hbq
      have hs1 : rpInt.slice.SLF (finW wo w.heap.size (.int .i64 O.st) (.int .i64 O.val) (.slice Ao O.out.length no) (.int .i64 (O.steps : Int))) w.heap.size (finW wo w.heap.size (.int .i64 O.st) (.int .i64 O.val) (.slice Ao O.out.length no) (.int .i64 (O.steps : Int))).heap.size (cntT tr cs cs.length) (.slice A7 cs.length n7) :=
        (hsl.keep fun k h1 h2 => g3.block k h2 (fun h => by omega)).more (by omega) g3.size
      have hs2 : rpInt.SLF (finW wo w.heap.size (.int .i64 O.st) (.int .i64 O.val) (.slice Ao O.out.length no) (.int .i64 (O.steps : Int))) w.heap.size (finW wo w.heap.size (.int .i64 O.st) (.int .i64 O.val) (.slice Ao O.out.length no) (.int .i64 (O.steps : Int))).heap.size O.out (.slice Ao O.out.length no) :=
        ((Hvo1.out.keep fun k h1 h2 => Hbel.out.block k h2).keep fun k h1 h2 => g3.block k h2 (fun h => by omega)).more (by omega) (by have := Hbel.out.size; have := g3.size; omega)
      have hend := HR3.out _ (.slice A7 cs.length n7) (.slice Ao O.out.length no) hbe hs1 hs2
      obtain ⟨x0, x1, x2, x3, xz⟩ := four_blk hEo
      obtain ⟨d0, d1⟩ := cells_blk hE2o
      obtain ⟨o0, o1, o2, o3, oz⟩ := four_blk hOo
      obtain ⟨f0, f1, z0, z1⟩ := cells_of_block hFo
      have lE := blk_lt hEo
      have lE2 := blk_lt hE2o
      have lO := blk_lt hOo
      have lF := blk_lt hFo
      have hne1 : w1.heap.size ≠ w.heap.size + 1 := by omega
      have hne2 : w1.heap.size ≠ w.heap.size + 2 := by omega
      have hne3 : w1.heap.size + 1 ≠ w.heap.size + 1 := by omega
      have hne4 : w1.heap.size + 1 ≠ w.heap.size + 2 := by omega
      have Hend := Lib.hid hend
      have G1 := Lib.hid g1
      have G2 := Lib.hid g2
      clear hend g1 g2 g3 hbq hbe hs1 hs2 hsl hEo hE2o hOo hFo e0 e1
      go_wp2_with fail
      go_region
      go_wp2
      exact bodyPost_ret (v := .tuple #[.slice A7 cs.length n7, .agg #[.int .i64 O.st, .int .i64 O.val, .slice Ao O.out.length no, .int .i64 (O.steps : Int)], .agg #[.int .i64 0, .int .i64 0]]) (res_runM (by rfl) (by rfl) (by rfl) (by rfl) G1.out G2.out) rfl Hend.out
end Go.Proofs.YtemakpjickbmnaaDoor
