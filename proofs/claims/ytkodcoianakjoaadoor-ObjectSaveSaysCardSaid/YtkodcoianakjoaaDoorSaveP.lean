/- An object's bytes, plainly. -/
import Derived.Test.YtkodcoianakjoaaDoorObjOk
import Derived.Test.YtkodcoianakjoaaDoorWriter
import Derived.Test.YtkodcoianakjoaaDoorFold
namespace Go.Proofs.YtkodcoianakjoaaDoor
open Go.RowKit
set_option linter.unusedSimpArgs false
set_option linter.unusedVariables false

def initB (l : List Int) : List UInt8 := l.flatMap fun n => numB (foldN n)
def globB (g : Global) : List UInt8 := textB g.name ++ (numB g.size.toNat ++ (numB g.init.length ++ initB g.init))
def mendB (m : Mend) : List UInt8 := numB m.at_.toNat ++ textB m.name
def mendsB (l : List Mend) : List UInt8 := l.flatMap mendB
def secB (s : Section) : List UInt8 := textB s.name ++ (textB (strL s.code) ++ (numB s.mends.length ++ mendsB s.mends))
def globsB (l : List Global) : List UInt8 := l.flatMap globB
def secsB (l : List Section) : List UInt8 := l.flatMap secB
def bodyB (o : Object) : List UInt8 := [79, 66, 74] ++ (numB o.globals.length ++ (globsB o.globals ++ (numB o.sections.length ++ secsB o.sections)))
def sumB (b : List UInt8) : List UInt8 := b ++ [UInt8.ofNat (sumL b / 256), UInt8.ofNat (sumL b % 256)]
def savedB (o : Object) : List UInt8 := sumB (bodyB o)

theorem flat_step {α : Type} (f : α → List UInt8) {l : List α} {k : Nat} {x : α} (h : l[k]? = some x) : (l.drop k).flatMap f = f x ++ (l.drop (k + 1)).flatMap f := by
  obtain ⟨hk, e⟩ := List.getElem?_eq_some_iff.1 h
  rw [List.drop_eq_getElem_cons hk, List.flatMap_cons, e]
theorem flat_le {α : Type} (f : α → List UInt8) (n : Nat) : ∀ (l : List α), (∀ x ∈ l, (f x).length ≤ n) → (l.flatMap f).length ≤ l.length * n
  | [], _ => by simp
  | x :: xs, h => by
    rw [List.flatMap_cons, List.length_append, List.length_cons, Nat.add_mul, Nat.one_mul]
    have h1 := h x (by simp)
    have h2 := flat_le f n xs fun y hy => h y (by simp [hy])
    omega
theorem textB_len (s : ByteArray) : (textB s).length ≤ 10 + s.size := by
  unfold textB
  rw [List.length_append, show s.data.toList.length = s.size from by rw [Array.length_toList]; rfl]
  have := numB_len s.size
  omega
theorem globB_len {g : Global} (h : GlobOk g) : (globB g).length ≤ 3000 := by
  unfold globB initB
  simp only [List.length_append]
  have h1 := textB_len g.name
  have h2 := numB_len g.size.toNat
  have h3 := numB_len g.init.length
  have h4 := flat_le (fun n => numB (foldN n)) 10 g.init (fun n _ => numB_len _)
  have h5 := (goodName_len h.good).2
  have h6 := h.fits
  have h7 := h.high
  omega
theorem mendB_len {m : Mend} (h : goodName m.name = true) : (mendB m).length ≤ 32 := by
  unfold mendB
  simp only [List.length_append]
  have h1 := textB_len m.name
  have h2 := numB_len m.at_.toNat
  have h5 := (goodName_len h).2
  omega
theorem secB_len {s : Section} (hg : goodName s.name = true) (h : secF s = 0) : (secB s).length ≤ 300000 := by
  obtain ⟨a, b, c⟩ := secF_ok h
  unfold secB mendsB
  simp only [List.length_append]
  have h1 := textB_len s.name
  have h2 := textB_len (strL s.code)
  have h3 := numB_len s.mends.length
  have h4 := flat_le mendB 32 s.mends (fun m hm => mendB_len (c m hm).2.2)
  have h5 := (goodName_len hg).2
  rw [strL_size] at h2
  omega
theorem bodyB_len {o : Object} (h : ObjOk o) : (bodyB o).length ≤ 13000000 := by
  unfold bodyB globsB secsB
  simp only [List.length_append, List.length_cons, List.length_nil]
  obtain ⟨g1, g2⟩ := globFault_ok h.glob
  have h1 := flat_le globB 3000 o.globals (fun g hg => globB_len (g2 g hg))
  have h2 := flat_le secB 300000 o.sections (fun s hs => by
    obtain ⟨k, hk, e⟩ := List.mem_iff_getElem.1 hs
    have := h.secs k s (by rw [List.getElem?_eq_getElem hk, e])
    exact secB_len this.good this.fine)
  have h3 := numB_len o.globals.length
  have h4 := numB_len o.sections.length
  have := h.few
  have := Nat.mul_le_mul_right 3000 g1
  have := Nat.mul_le_mul_right 300000 h.few
  omega
/-- All first values fit an int. -/
def Wide (o : Object) : Prop := ∀ g ∈ o.globals, ∀ n ∈ g.init, I64 n
def saveB (o : Object) : List UInt8 := if (objFault o).1 ≠ 0 then [] else if 90000 < (savedB o).length then [] else savedB o
def saveF (o : Object) : Int × Int := if (objFault o).1 ≠ 0 then objFault o else if 90000 < (savedB o).length then (10, 0) else (0, 0)
end Go.Proofs.YtkodcoianakjoaaDoor
