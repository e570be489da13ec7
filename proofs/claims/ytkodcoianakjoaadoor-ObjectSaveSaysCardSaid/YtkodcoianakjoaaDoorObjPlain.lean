/- Objects, plainly: what may be. -/
import Derived.Test.YtkodcoianakjoaaDoorMacPlain
namespace Go.Proofs.YtkodcoianakjoaaDoor
open Go.RowKit
set_option linter.unusedSimpArgs false
set_option linter.unusedVariables false

structure Mend where
  at_ : Int
  name : ByteArray
structure Section where
  name : ByteArray
  code : List UInt8
  mends : List Mend
structure Global where
  name : ByteArray
  size : Int
  init : List Int
structure Object where
  globals : List Global
  sections : List Section
def rpMend : Rp Mend := (rpInt.pair rpStr).as_ fun m => (m.at_, m.name)
def rpSection : Rp Section := (rpStr.pair (rpByte.slice.pair rpMend.slice)).as_ fun s => (s.name, s.code, s.mends)
def rpGlobal : Rp Global := (rpStr.pair (rpInt.pair rpInt.slice)).as_ fun g => (g.name, g.size, g.init)
def rpObject : Rp Object := (rpGlobal.slice.pair rpSection.slice).as_ fun o => (o.globals, o.sections)

/-- May a byte stand at a place of a name? -/
def letterOk (i : Nat) (c : UInt8) : Bool :=
  decide ((97 ≤ c.toNat ∧ c.toNat ≤ 122) ∨ (65 ≤ c.toNat ∧ c.toNat ≤ 90) ∨ c.toNat = 95 ∨ (0 < i ∧ 48 ≤ c.toNat ∧ c.toNat ≤ 57))
def nameFrom (s : ByteArray) : Nat → Nat → Bool
  | 0, _ => true
  | m + 1, i => letterOk i (s.get! i) && nameFrom s m (i + 1)
def goodName (s : ByteArray) : Bool := decide (1 ≤ s.size ∧ s.size ≤ 12) && nameFrom s s.size 0

def globFrom (l : List Global) : Nat → Nat → Int → Int × Int
  | 0, _, _ => (0, 0)
  | m + 1, i, sum =>
    match l[i]? with
    | none => (0, 0)
    | some g =>
      if goodName g.name = false then (12, (i : Int))
      else if (l.take i).any (fun o => decide (o.name = g.name)) = true then (7, (i : Int))
      else if g.size < 1 ∨ 200 < g.size then (3, (i : Int))
      else if g.size < g.init.length then (9, (i : Int))
      else if 200 < sum + g.size then (10, (i : Int))
      else globFrom l m (i + 1) (sum + g.size)
def globFault (l : List Global) : Int × Int := if 10 < l.length then (2, 0) else globFrom l l.length 0 0

def mendsFrom (l : List Mac) (ms : List Mend) : Nat → Nat → Int
  | 0, _ => if ((l.filter fun m => m.op == 44).length = ms.length) then 0 else 9
  | f + 1, i =>
    match ms[i]? with
    | none => 0
    | some m =>
      if m.at_ < 0 ∨ (l.length : Int) ≤ m.at_ then 3
      else if (l.getD m.at_.toNat ⟨0, 0, 0, 0, 0⟩).op ≠ 44 then 4
      else if (l.getD m.at_.toNat ⟨0, 0, 0, 0, 0⟩).n ≠ 0 ∨ (0 < i ∧ m.at_ ≤ (ms.getD (i - 1) ⟨0, ByteArray.empty⟩).at_) then 5
      else if goodName m.name = false then 12
      else mendsFrom l ms f (i + 1)
def secF (s : Section) : Int := match readL s.code with
  | none => 1
  | some l => mendsFrom l s.mends s.mends.length 0

def secsFrom (o : Object) : Nat → Nat → Int × Int
  | 0, _ => (0, 0)
  | f + 1, i =>
    match o.sections[i]? with
    | none => (0, 0)
    | some s =>
      if goodName s.name = false then (12, (i : Int))
      else if (o.globals.any (fun g => decide (g.name = s.name)) || (o.sections.take i).any (fun t => decide (t.name = s.name))) = true then (7, (i : Int))
      else if secF s ≠ 0 then (secF s, (i : Int))
      else secsFrom o f (i + 1)
def objFault (o : Object) : Int × Int :=
  if (globFault o.globals).1 ≠ 0 then globFault o.globals else if 40 < o.sections.length then (2, 0) else secsFrom o o.sections.length 0

/-! ### What the three words say -/
theorem rpMend_rep {w : World} {B : Nat} {m : Mend} {cs : List Value} : rpMend.rep w B m cs ↔ cs = [.int .i64 m.at_, .string m.name] := by
  simp [rpMend, Rp.as_, Rp.pair, rpInt, rpStr]
theorem rpSection_rep {w : World} {B : Nat} {s : Section} {cs : List Value} (h : rpSection.rep w B s cs) : ∃ v1 v2, cs = [.string s.name, v1, v2] ∧ rpByte.SL w B s.code v1 ∧ rpMend.SL w B s.mends v2 := by
  obtain ⟨c1, c2, rfl, rfl, c3, c4, rfl, ⟨v1, rfl, h1⟩, v2, rfl, h2⟩ := h
  exact ⟨v1, v2, rfl, h1, h2⟩
theorem rpGlobal_rep {w : World} {B : Nat} {g : Global} {cs : List Value} (h : rpGlobal.rep w B g cs) : ∃ v1, cs = [.string g.name, .int .i64 g.size, v1] ∧ rpInt.SL w B g.init v1 := by
  obtain ⟨c1, c2, rfl, rfl, c3, c4, rfl, rfl, v1, rfl, h1⟩ := h
  exact ⟨v1, rfl, h1⟩
theorem rpObject_rep {w : World} {B : Nat} {o : Object} {cs : List Value} (h : rpObject.rep w B o cs) : ∃ v1 v2, cs = [v1, v2] ∧ rpGlobal.SL w B o.globals v1 ∧ rpSection.SL w B o.sections v2 := by
  obtain ⟨c1, c2, rfl, ⟨v1, rfl, h1⟩, v2, rfl, h2⟩ := h
  exact ⟨v1, v2, rfl, h1, h2⟩
theorem rpMend_size : rpMend.size = 2 := rfl
theorem rpSection_size : rpSection.size = 3 := rfl
theorem rpGlobal_size : rpGlobal.size = 3 := rfl
theorem Rp.SL.mend_at {w : World} {B : Nat} {xs : List Mend} {A : Option Addr} {n c k : Nat} (h : rpMend.SL w B xs (.slice A n c)) (hk : k < xs.length) : ∃ b off m, A = some ⟨b, off, none⟩ ∧ b < B ∧ xs[k]? = some m ∧
    w.cell? ⟨b, off + k * 2, none⟩ = some (.int .i64 m.at_) ∧ w.cell? ⟨b, off + k * 2 + 1, none⟩ = some (.string m.name) := by
  obtain ⟨b, off, cs, hA, hb, hr, hcs⟩ := h.at_ (List.getElem?_eq_getElem hk)
  rw [rpMend_rep] at hr
  subst hr
  exact ⟨b, off, xs[k], hA, hb, List.getElem?_eq_getElem hk, hcs 0 _ rfl, hcs 1 _ rfl⟩
theorem Rp.SL.section_at {w : World} {B : Nat} {xs : List Section} {A : Option Addr} {n c k : Nat} (h : rpSection.SL w B xs (.slice A n c)) (hk : k < xs.length) : ∃ b off s v1 v2, A = some ⟨b, off, none⟩ ∧ b < B ∧ xs[k]? = some s ∧ rpByte.SL w B s.code v1 ∧ rpMend.SL w B s.mends v2 ∧
    w.cell? ⟨b, off + k * 3, none⟩ = some (.string s.name) ∧ w.cell? ⟨b, off + k * 3 + 1, none⟩ = some v1 ∧ w.cell? ⟨b, off + k * 3 + 2, none⟩ = some v2 := by
  obtain ⟨b, off, cs, hA, hb, hr, hcs⟩ := h.at_ (List.getElem?_eq_getElem hk)
  obtain ⟨v1, v2, rfl, h1, h2⟩ := rpSection_rep hr
  exact ⟨b, off, xs[k], v1, v2, hA, hb, List.getElem?_eq_getElem hk, h1, h2, hcs 0 _ rfl, hcs 1 _ rfl, hcs 2 _ rfl⟩
theorem Rp.SL.global_at {w : World} {B : Nat} {xs : List Global} {A : Option Addr} {n c k : Nat} (h : rpGlobal.SL w B xs (.slice A n c)) (hk : k < xs.length) : ∃ b off g v1, A = some ⟨b, off, none⟩ ∧ b < B ∧ xs[k]? = some g ∧ rpInt.SL w B g.init v1 ∧
    w.cell? ⟨b, off + k * 3, none⟩ = some (.string g.name) ∧ w.cell? ⟨b, off + k * 3 + 1, none⟩ = some (.int .i64 g.size) ∧ w.cell? ⟨b, off + k * 3 + 2, none⟩ = some v1 := by
  obtain ⟨b, off, cs, hA, hb, hr, hcs⟩ := h.at_ (List.getElem?_eq_getElem hk)
  obtain ⟨v1, rfl, h1⟩ := rpGlobal_rep hr
  exact ⟨b, off, xs[k], v1, hA, hb, List.getElem?_eq_getElem hk, h1, hcs 0 _ rfl, hcs 1 _ rfl, hcs 2 _ rfl⟩
end Go.Proofs.YtkodcoianakjoaaDoor
