/- Words for linking: lists of objects and of names that are read; a map of names onto sections, of the call's own. -/
import Derived.Test.YtcakodemngchpaaGreatDoorBase
import Derived.Test.YtcakodemngchpaaGreatDoorRows
import Derived.IntWalk
import Derived.Maps.OwnSet
import Derived.Maps.Views
import Derived.Test.YtcakodemngchpaaGreatDoorLinkP2
import Derived.Test.YtcakodemngchpaaGreatDoorCopyA
import Derived.Test.YtcakodemngchpaaGreatDoorAppA
namespace Go.Proofs.YtcakodemngchpaaGreatDoor
open Go.RowKit
set_option linter.unusedSimpArgs false
set_option linter.unusedVariables false

theorem Rp.SL.object_at {w : World} {B : Nat} {xs : List Object} {A : Option Addr} {n c k : Nat} (h : rpObject.SL w B xs (.slice A n c)) (hk : k < xs.length) : ∃ b off o v1 v2, A = some ⟨b, off, none⟩ ∧ b < B ∧ xs[k]? = some o ∧ rpGlobal.SL w B o.globals v1 ∧ rpSection.SL w B o.sections v2 ∧
    w.cell? ⟨b, off + k * 2, none⟩ = some v1 ∧ w.cell? ⟨b, off + k * 2 + 1, none⟩ = some v2 := by
  obtain ⟨b, off, cs, hA, hb, hr, hcs⟩ := h.at_ (List.getElem?_eq_getElem hk)
  obtain ⟨v1, v2, rfl, h1, h2⟩ := rpObject_rep hr
  exact ⟨b, off, xs[k], v1, v2, hA, hb, List.getElem?_eq_getElem hk, h1, h2, hcs 0 _ rfl, hcs 1 _ rfl⟩
def strCells (s : ByteArray) : List Value := [.string s]
theorem Rp.SL.str_at {w : World} {B : Nat} {xs : List ByteArray} {A : Option Addr} {n c k : Nat} (h : rpStr.SL w B xs (.slice A n c)) (hk : k < xs.length) : ∃ b off s, A = some ⟨b, off, none⟩ ∧ b < B ∧ xs[k]? = some s ∧ w.cell? ⟨b, off + k, none⟩ = some (.string s) := by
  obtain ⟨b, off, cs, hA, hb, hr, hcs⟩ := h.at_ (List.getElem?_eq_getElem hk)
  have : cs = [.string xs[k]] := hr
  subst this
  refine ⟨b, off, xs[k], hA, hb, List.getElem?_eq_getElem hk, ?_⟩
  have := hcs 0 _ rfl
  simpa [rpStr] using this
theorem SLstr_own {w : World} {B base : Nat} {e : TypeId} {v : Value} {xs : List ByteArray} (h : w.ownsRow base e 1 v xs.length (xs.flatMap strCells)) (hB : w.heap.size ≤ B) : rpStr.SL w B xs v :=
  Rp.SL.of_own (r := rpStr) (f := strCells) (fun _ _ _ => rfl) (fun _ => rfl) h hB
theorem info_string : (Tryz.prog.info? 9).map (fun i => (i.zero, i.size, i.bytes)) = some (some (.string ByteArray.empty), 1, 16) := by kernel_rfl

/-- A value stands for itself. -/
def secRd (v : Value) : Option (DataW Value × List MemPlace) := some (.held v, [])
def zeroSec : Value := .agg #[.string ByteArray.empty, .slice none 0 0, .slice none 0 0]
theorem zero_sec (w : World) : (zeroValue 58).run Tryz.prog w = .ok zeroSec w := by kernel_rfl
/-- A block is a map of names onto values, of at most n entries. -/
def MapIs (w : World) (b n : Nat) (F : ByteArray → Option Value) : Prop :=
  ∃ D : DataW Value, w.ownsMap Tryz.prog 9 secRd b n D ∧ ∀ nm : ByteArray, Maps.has D (.string nm.data.toList) = (F nm).isSome ∧ ∀ z, D.atKey (.string nm.data.toList) (.held z) = .held ((F nm).getD z)
theorem key_string {nm : ByteArray} (h : nm.size ≤ maxLen) : keyOf Tryz.prog 9 (.string nm) = some (.string nm.data.toList) := by
  have hk := Tryz.underlying9
  unfold keyOf
  simp [hk, mapKey, h]
theorem MapIs.made (w : World) : MapIs (w.alloc (.map #[] 0)) w.heap.size 0 (fun _ => none) :=
  ⟨.map [], World.ownsMap_made _ _ _ _, fun nm => ⟨rfl, fun z => rfl⟩⟩
theorem MapIs.kept {w w' : World} {b n : Nat} {F : ByteArray → Option Value} {row : Option Nat} (h : MapIs w b n F) (hg : w.grownBy w' row) (hne : some b ≠ row) : MapIs w' b n F := by
  obtain ⟨D, h1, h2⟩ := h
  exact ⟨D, h1.kept hg hne, h2⟩
theorem MapIs.below {w w' : World} {b n : Nat} {F : ByteArray → Option Value} (h : MapIs w b n F) (hb : Below w.heap.size w w') : MapIs w' b n F := h.kept (grown_of_below hb none) (by simp)
theorem MapIs.look_ok {w : World} {b n : Nat} {F : ByteArray → Option Value} (h : MapIs w b n F) {nm : ByteArray} (hs : nm.size ≤ maxLen) :
    (Instr.lookup 72 (.map (some b)) (.string nm) true).run Tryz.prog w = .ok (.tuple #[(F nm).getD zeroSec, .bool (F nm).isSome]) w := by
  obtain ⟨D, h1, h2⟩ := h
  obtain ⟨v, ps, h3, h4⟩ := h1.look_ok (Maps.string_keyed Tryz.underlying9) Tryz.underlying72 (zero_sec w) (zd := .held zeroSec) (zp := []) rfl (key_string hs)
  rw [(h2 nm).2] at h4
  have : v = (F nm).getD zeroSec := by
    unfold secRd at h4
    simp at h4
    exact h4.1
  rw [h3, this, (h2 nm).1]
theorem MapIs.look {w : World} {b n : Nat} {F : ByteArray → Option Value} (h : MapIs w b n F) {nm : ByteArray} (hs : nm.size ≤ maxLen) :
    (Instr.lookup 72 (.map (some b)) (.string nm) false).run Tryz.prog w = .ok ((F nm).getD zeroSec) w := by
  obtain ⟨D, h1, h2⟩ := h
  obtain ⟨v, ps, h3, h4⟩ := h1.lookup (Maps.string_keyed Tryz.underlying9) Tryz.underlying72 (zero_sec w) (zd := .held zeroSec) (zp := []) rfl (key_string hs)
  rw [(h2 nm).2] at h4
  have : v = (F nm).getD zeroSec := by
    unfold secRd at h4
    simp at h4
    exact h4.1
  rw [h3, this]
theorem key_lit (x : ByteArray) : WideAt.IsKeyLit (Lit.string x.data.toList) := by first | exact trivial | (unfold WideAt.IsKeyLit; simp) | simp [WideAt.IsKeyLit]
theorem key_ne {a b : ByteArray} (h : a ≠ b) : Lit.string a.data.toList ≠ Lit.string b.data.toList := by
  intro e
  injection e with e
  exact h (ByteArray.ext (by simpa using e))
theorem MapIs.put {w : World} {b n : Nat} {F : ByteArray → Option Value} (h : MapIs w b n F) (hn : n < maxLen) {nm : ByteArray} (hs : nm.size ≤ maxLen) (v : Value) :
    ∃ w', (Instr.mapUpdate 72 (.map (some b)) (.string nm) v).run Tryz.prog w = .ok () w' ∧ MapIs w' b (n + 1) (fun x => if x = nm then some v else F x) ∧ w.grownBy w' (some b) := by
  obtain ⟨D, h1, h2⟩ := h
  obtain ⟨w', h3, h4, h5⟩ := h1.update (Maps.string_keyed Tryz.underlying9) Tryz.underlying72 hn (key_string hs) (val := v) (d := .held v) (ps := []) rfl
  refine ⟨w', h3, ⟨_, h4, fun x => ?_⟩, h5⟩
  by_cases e : x = nm
  · subst e
    simp only [if_true]
    exact ⟨Maps.has_put_same h1.isMap (key_lit x) _, fun z => Maps.atKey_put_same h1.isMap (key_lit x) _ _⟩
  · simp only [if_neg e]
    exact ⟨(Maps.has_put_other (key_ne e) _).trans (h2 x).1, fun z => (Maps.atKey_put_other (key_ne e) _ _).trans ((h2 x).2 z)⟩
/-- A map holds the sections of a list, as they lie in the memory that was there. -/
def MapSec (w0 w : World) (b n : Nat) (S : List Section) : Prop :=
  ∃ F, MapIs w b n F ∧ ∀ nm, match secFind S nm with
    | none => F nm = none
    | some s => ∃ A1 c1 A2 c2, F nm = some (.agg #[.string s.name, .slice A1 s.code.length c1, .slice A2 s.mends.length c2]) ∧ rpByte.SL w0 w0.heap.size s.code (.slice A1 s.code.length c1) ∧ rpMend.SL w0 w0.heap.size s.mends (.slice A2 s.mends.length c2)
theorem MapSec.kept {w0 w w' : World} {b n : Nat} {S : List Section} {row : Option Nat} (h : MapSec w0 w b n S) (hg : w.grownBy w' row) (hne : some b ≠ row) : MapSec w0 w' b n S := by
  obtain ⟨F, h1, h2⟩ := h
  exact ⟨F, h1.kept hg hne, h2⟩
theorem MapSec.below {w0 w w' : World} {b n : Nat} {S : List Section} (h : MapSec w0 w b n S) (hb : Below w.heap.size w w') : MapSec w0 w' b n S := by
  obtain ⟨F, h1, h2⟩ := h
  exact ⟨F, h1.below hb, h2⟩
theorem MapSec.made (w0 w : World) : MapSec w0 (w.alloc (.map #[] 0)) w.heap.size 0 [] := ⟨_, MapIs.made w, fun nm => rfl⟩
/-- Is a name there? -/
theorem MapSec.look_ok {w0 w : World} {b n : Nat} {S : List Section} (h : MapSec w0 w b n S) {nm : ByteArray} (hs : nm.size ≤ maxLen) :
    ∃ A1 n1 c1 A2 n2 c2 s, ∀ W, Below w.heap.size w W → (Instr.lookup 72 (.map (some b)) (.string nm) true).run Tryz.prog W = .ok (.tuple #[.agg #[.string s, .slice A1 n1 c1, .slice A2 n2 c2], .bool (hasS S nm)]) W := by
  obtain ⟨F, h1, h2⟩ := h
  have h3 := fun W (hb : Below w.heap.size w W) => (h1.below hb).look_ok hs
  have h4 := h2 nm
  cases hh : hasS S nm with
  | false =>
    rw [secFind_none hh] at h4
    simp only [] at h4
    rw [h4] at h3
    exact ⟨none, 0, 0, none, 0, 0, ByteArray.empty, h3⟩
  | true =>
    obtain ⟨s, hs1, _, _⟩ := secFind_has hh
    rw [hs1] at h4
    simp only [] at h4
    obtain ⟨A1, c1, A2, c2, h5, _, _⟩ := h4
    rw [h5] at h3
    exact ⟨A1, _, c1, A2, _, c2, s.name, h3⟩
/-- The section of a name that is there. -/
theorem MapSec.look {w0 w : World} {b n : Nat} {S : List Section} (h : MapSec w0 w b n S) {nm : ByteArray} (hs : nm.size ≤ maxLen) {s : Section} (hf : secFind S nm = some s) :
    ∃ A1 c1 A2 c2, (∀ W, Below w.heap.size w W → (Instr.lookup 72 (.map (some b)) (.string nm) false).run Tryz.prog W = .ok (.agg #[.string s.name, .slice A1 s.code.length c1, .slice A2 s.mends.length c2]) W) ∧ rpByte.SL w0 w0.heap.size s.code (.slice A1 s.code.length c1) ∧ rpMend.SL w0 w0.heap.size s.mends (.slice A2 s.mends.length c2) := by
  obtain ⟨F, h1, h2⟩ := h
  have h3 := fun W (hb : Below w.heap.size w W) => (h1.below hb).look hs
  have h4 := h2 nm
  rw [hf] at h4
  simp only [] at h4
  obtain ⟨A1, c1, A2, c2, h5, h6, h7⟩ := h4
  rw [h5] at h3
  exact ⟨A1, c1, A2, c2, h3, h6, h7⟩
/-- A section more. -/
theorem MapSec.put {w0 w : World} {b n : Nat} {S : List Section} (h : MapSec w0 w b n S) (hn : n < maxLen) {s : Section} (hs : s.name.size ≤ maxLen) (hnew : hasS S s.name = false) {A1 A2 : Option Addr} {c1 c2 : Nat} (h1 : rpByte.SL w0 w0.heap.size s.code (.slice A1 s.code.length c1)) (h2 : rpMend.SL w0 w0.heap.size s.mends (.slice A2 s.mends.length c2)) :
    ∃ w', (Instr.mapUpdate 72 (.map (some b)) (.string s.name) (.agg #[.string s.name, .slice A1 s.code.length c1, .slice A2 s.mends.length c2])).run Tryz.prog w = .ok () w' ∧ MapSec w0 w' b (n + 1) (S ++ [s]) ∧ w.grownBy w' (some b) := by
  obtain ⟨F, hF, h3⟩ := h
  obtain ⟨w', h4, h5, h6⟩ := hF.put hn hs (.agg #[.string s.name, .slice A1 s.code.length c1, .slice A2 s.mends.length c2])
  refine ⟨w', h4, ⟨_, h5, fun nm => ?_⟩, h6⟩
  rw [secFind_snoc hnew]
  by_cases e : s.name = nm
  · subst e
    rw [if_pos rfl]
    simp only [if_true]
    exact ⟨A1, c1, A2, c2, rfl, h1, h2⟩
  · rw [if_neg e]
    have := h3 nm
    cases hf : secFind S nm with
    | none =>
      rw [hf] at this
      simp only [] at this ⊢
      rw [if_neg (fun e' => e e'.symm)]
      exact this
    | some s' =>
      rw [hf] at this
      simp only [] at this ⊢
      rw [if_neg (fun e' => e e'.symm)]
      exact this
end Go.Proofs.YtcakodemngchpaaGreatDoor
