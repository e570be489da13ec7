/- The document's answer: an instruction that stands at a place. The document's answer: instructions out of bytes. -/
import Derived.Test.YtemakpjickbmnaaDoorBase
import Derived.Test.YtemakpjickbmnaaDoorRows
import Derived.IntWalk
import Derived.Deep.LoopGhost
import Derived.Deep.CutBlock
import Derived.Deep.DeepCutAuto
import Derived.Test.YtemakpjickbmnaaDoorRefA
import Derived.Test.YtemakpjickbmnaaDoorReadC
import Derived.Test.YtemakpjickbmnaaDoorPlainA
/- The document's answer: an instruction that stands at a place. -/
namespace Go.Proofs.YtemakpjickbmnaaDoor
open Go.RowKit
set_option linter.unusedSimpArgs false
set_option linter.unusedVariables false

def isReg (c : UInt8) : Bool := c == 100 || c == 97 || c == 98
def cnt (l : List UInt8) : Nat := (l.filter isReg).length
theorem cnt_many (op : Int) (h : known op = true) : cnt (fieldsOf op).data.toList = (shapeOf op).many := by
  have hb : 1 ≤ op ∧ op ≤ 47 := by simpa [known] using h
  obtain ⟨k, rfl⟩ : ∃ k : Nat, op = (k : Int) := ⟨op.toNat, by omega⟩
  have e1 : fieldsOf (k : Int) = fieldsTab.getD k ⟨#[63]⟩ := by rw [fieldsOf, if_pos hb]; rfl
  have e2 : shapeOf (k : Int) = shapeTab.getD k ⟨false, false, false, 0⟩ := by rw [shapeOf, if_pos hb]; rfl
  rw [e1, e2]
  have key : ∀ k : Nat, k < 48 → 1 ≤ k → cnt (fieldsTab.getD k ⟨#[63]⟩).data.toList = (shapeTab.getD k ⟨false, false, false, 0⟩).many := by decide
  exact key k (by omega) (by omega)
theorem cnt_step {s : ByteArray} {k : Nat} (h : k < s.size) : cnt (s.data.toList.take (k + 1)) = cnt (s.data.toList.take k) + if isReg s[k] then 1 else 0 := by
  rw [List.take_succ_eq_append_getElem (by simpa using h), cnt, List.filter_append, List.length_append]
  congr 1
  show (List.filter isReg [s[k]]).length = _
  cases hr : isReg s[k] <;> simp [List.filter_cons, hr]
theorem cnt_le (s : ByteArray) (k : Nat) : cnt (s.data.toList.take k) ≤ k := by
  have h1 := List.length_filter_le isReg (s.data.toList.take k)
  have h2 : (s.data.toList.take k).length ≤ k := List.length_take_le _ _
  unfold cnt
  omega
theorem many_le (s : Shape) : s.many ≤ 3 := by
  obtain ⟨d, a, b, n⟩ := s
  cases d <;> cases a <;> cases b <;> simp [Shape.many]

theorem own_int_at {w : World} {base e k : Nat} {A : Option Addr} {c : Nat} {vals : List Int} (h : w.ownsRow base e 1 (.slice A vals.length c) vals.length (vals.map (Value.int .i64))) (hk : k < vals.length) : ∃ g, A = some ⟨g, 0, none⟩ ∧ vals.length ≤ c ∧ base ≤ g ∧ g < w.heap.size ∧ w.cell? ⟨g, k, none⟩ = some (.int .i64 (vals.getD k 0)) := by
  obtain ⟨h1, h2⟩ := h
  rcases h2 with ⟨_, hn⟩ | ⟨g, cap, cur, hv, hB, hh, hnc, hcm, hcs, htk⟩
  · omega
  · injection hv with hA _ hc
    subst hA hc
    refine ⟨g, rfl, hnc, hB, ?_, ?_⟩
    · rcases Nat.lt_or_ge g w.heap.size with hlt | hge
      · exact hlt
      · rw [Array.getElem?_eq_none hge] at hh
        cases hh
    · have hg : (vals.map (Value.int .i64))[k]? = some (.int .i64 (vals.getD k 0)) := by
        rw [List.getElem?_map, List.getD_eq_getElem?_getD, List.getElem?_eq_getElem hk]
        rfl
      rw [← htk, List.getElem?_take] at hg
      split at hg
      · rw [Array.getElem?_toList] at hg
        simpa [World.cell?, hh] using hg
      · cases hg
/-- How the memory stands while the registers are laid. -/
def MidReg (w wc : World) (vals : List Int) (v : Value) (m : Mac) (wx : World) : Prop :=
  wx.heap[w.heap.size + 1]? = some (.cells m.arr 36 (0, 0)) ∧ wx.heap[w.heap.size]? = some (.cells (⟨0, 0, 0, 0, 0⟩ : Mac).arr 36 (0, 0)) ∧ wx.ownsRow (w.heap.size + 2) 3 1 v vals.length (vals.map (Value.int .i64)) ∧ Below w.heap.size w wx ∧ w.heap.size + 2 ≤ wx.heap.size
theorem MidReg.put {w wc : World} {vals : List Int} {v : Value} {m : Mac} {wx : World} (h : MidReg w wc vals v m wx) (x : Nat) (u : Int) (m' : Mac) (hx : m.arr.setIfInBounds x (.int .i64 u) = m'.arr) : MidReg w wc vals v m' (wx.setCell ⟨w.heap.size + 1, x, none⟩ (.int .i64 u)) := by
  obtain ⟨h1, h2, h3, h4, h5⟩ := h
  refine ⟨by rw [block_set h1, hx], ?_, ownsRow_setCell_below h3 (a := ⟨w.heap.size + 1, x, none⟩) (by show w.heap.size + 1 < w.heap.size + 2; omega) _, h4.setCell (p := ⟨w.heap.size + 1, x, none⟩) (by show w.heap.size ≤ w.heap.size + 1; omega) _, by simpa [World.setCell] using h5⟩
  exact ((grown_setCell wx ⟨w.heap.size + 1, x, none⟩ (.int .i64 u)).block _ (by omega) (by simp)).trans h2
theorem set_other {w : World} {b c j : Nat} {X : Obj} (h : w.heap[b]? = some X) (hne : b ≠ c) (u : Value) : (w.setCell ⟨c, j, none⟩ u).heap[b]? = some X :=
  ((grown_setCell w ⟨c, j, none⟩ u).block b (by
    rcases Nat.lt_or_ge b w.heap.size with hlt | hge
    · exact hlt
    · rw [Array.getElem?_eq_none hge] at h
      cases h) (by simpa using hne)).trans h
theorem info_int : (Tryd.prog.info? 3).map (fun i => (i.zero, i.size, i.bytes)) = some (some (.int .i64 0), 1, 8) := by kernel_rfl
theorem res_Mac_int {fn : Func} {p t : Tmp} (h : fn.results = #[.cell p 36, .tmp t]) {tmps : Array Value} {b : Nat} {w : World} {m : Mac} {T : TypeId} {v : Value} (hp : tmps.getD p undef = .pointer (some ⟨b, 0, none⟩)) (ht : tmps.getD t undef = v)
    (hc : w.heap[b]? = some (.cells m.arr T (0, 0))) : (results fn tmps).run Tryd.prog w = .ok (.tuple #[.agg m.arr, v]) w := by
  rw [Array.getD_eq_getD_getElem?] at hp ht
  obtain ⟨a0, a1, a2, a3, a4, _⟩ := cells_of_arr hc
  simp [results, h, hp, ht, go_sem, a0, a1, a2, a3, a4, Mac.arr]

end Go.Proofs.YtemakpjickbmnaaDoor

/- The document's answer: instructions out of bytes. -/
namespace Go.Proofs.YtemakpjickbmnaaDoor
open Go.RowKit
set_option linter.unusedSimpArgs false
set_option linter.unusedVariables false

theorem numL_suffix : ∀ (f i acc : Nat) (bs : List UInt8) (n : Nat) (r : List UInt8), numL f i acc bs = some (n, r) → r <:+ bs
  | 0, _, _, _, _, _, h => by cases h
  | _ + 1, _, _, [], _, _, h => by cases h
  | f + 1, i, acc, b :: bs, n, r, h => by
    unfold numL at h
    split at h
    · cases h
    split at h
    · obtain ⟨_, rfl⟩ := Prod.mk.inj (Option.some.inj h)
      exact List.suffix_cons _ _
    · exact (numL_suffix f _ _ _ _ _ h).trans (List.suffix_cons _ _)
theorem regsL_suffix : ∀ (k : Nat) (bs : List UInt8) (l : List Int) (r : List UInt8), regsL k bs = some (l, r) → r <:+ bs
  | 0, bs, l, r, h => by
    unfold regsL at h
    obtain ⟨rfl, rfl⟩ := Prod.mk.inj (Option.some.inj h)
    exact List.suffix_refl _
  | 1, [], l, r, h => by simp [regsL] at h
  | n + 2, [], l, r, h => by simp [regsL] at h
  | 1, b :: bs, l, r, h => by
    unfold regsL at h
    split at h
    · cases h
    · obtain ⟨rfl, rfl⟩ := Prod.mk.inj (Option.some.inj h)
      exact List.suffix_cons _ _
  | n + 2, b :: bs, l, r, h => by
    unfold regsL at h
    rw [Option.map_eq_some_iff] at h
    obtain ⟨⟨l', r'⟩, h1, h2⟩ := h
    obtain ⟨rfl, rfl⟩ := Prod.mk.inj h2
    exact (regsL_suffix n bs _ _ h1).trans (List.suffix_cons _ _)
theorem macL_suffix {bs : List UInt8} {m : Mac} {r : List UInt8} (h : macL bs = some (m, r)) : r <:+ bs := by
  cases bs with
  | nil => cases h
  | cons b bs =>
    rw [macL] at h
    split at h
    · cases h
    rw [Option.bind_eq_some_iff] at h
    obtain ⟨⟨l, r'⟩, h1, h2⟩ := h
    have s1 := regsL_suffix _ _ _ _ h1
    split at h2
    · obtain ⟨_, rfl⟩ := Prod.mk.inj (Option.some.inj h2)
      exact s1.trans (List.suffix_cons _ _)
    · rw [Option.map_eq_some_iff] at h2
      obtain ⟨⟨x, r''⟩, h3, h4⟩ := h2
      obtain ⟨_, rfl⟩ := Prod.mk.inj h4
      exact ((numL_suffix _ _ _ _ _ _ h3).trans s1).trans (List.suffix_cons _ _)
theorem macL_at {bs r : List UInt8} {m : Mac} {j : Nat} (h : macL (bs.drop j) = some (m, r)) : ∃ i : Nat, placeOf bs r = (i : Int) ∧ r = bs.drop i ∧ j < i ∧ i ≤ bs.length := by
  have h1 := (macL_suffix h).trans (List.drop_suffix j bs)
  have h2 := h1.length_le
  have h3 := macL_short h
  rw [List.length_drop] at h3
  refine ⟨bs.length - r.length, by unfold placeOf; omega, List.suffix_iff_eq_drop.1 h1, by omega, by omega⟩

end Go.Proofs.YtemakpjickbmnaaDoor