/- Bytes and texts: string(b) of a slice that reads as a list of bytes. -/
import Derived.Test.YtkodcoianakjoaaDoorLib
import Derived.Test.YtkodcoianakjoaaDoorRows
import Derived.IntWalk
import Derived.Laws.BytesArg
import Derived.Test.YtkodcoianakjoaaDoorLib3
namespace Go.Proofs.YtkodcoianakjoaaDoor
open Go.RowKit
set_option linter.unusedSimpArgs false
set_option linter.unusedVariables false

/-- Bytes as a text. -/
def strL (bs : List UInt8) : ByteArray := ⟨bs.toArray⟩
theorem strL_inj {a b : List UInt8} (h : strL a = strL b) : a = b := by
  have := congrArg (fun s : ByteArray => s.data.toList) h
  simpa [strL] using this
theorem strL_size (a : List UInt8) : (strL a).size = a.length := by simp [strL, ByteArray.size]

theorem strOfNums_bytes (bs : List UInt8) : strOfNums (bs.map fun b => (b.toNat : Int)) = strL bs := by
  unfold strOfNums strL
  rw [List.map_map]
  congr 2
  conv => rhs; rw [← List.map_id bs]
  apply List.map_congr_left
  intro b _
  simp

theorem conv_bytes {P : Program} {src dst e : TypeId} (hs : P.underlying src = some (.slice e)) (he : P.underlying e = some (.int .u8)) (hd : P.underlying dst = some .string) {w : World} {B : Nat} {bs : List UInt8} {v : Value} (h : rpByte.SL w B bs v) :
    (convert src dst v).run P w = .ok (.string (strL bs)) w := by
  obtain ⟨A, c, rfl, hm, hcap, h⟩ := h.cases_
  cases A with
  | none =>
    have hx : bs = [] := by
      rcases Nat.eq_zero_or_pos bs.length with h0 | hp
      · exact List.eq_nil_of_length_eq_zero h0
      · obtain ⟨b, off, _, hA, _⟩ := h.at_ (List.getElem?_eq_getElem hp)
        cases hA
    subst hx
    exact run_convert_bytes_nil w src e hs he _ _ _ hd
  | some a =>
    rcases Nat.eq_zero_or_pos bs.length with h0 | hp
    · have hx := List.eq_nil_of_length_eq_zero h0
      subst hx
      have hl : (loadCells a 0).run P w = .ok (([] : List Int).map (Value.int .u8)).toArray w := by
        have := run_loadCells_list (P := P) w a [] (fun j v hj => by simp at hj)
        simpa using this
      rw [run_convert_bytes_string w src dst e _ _ _ hs he hd]
      exact run_bytesToString w a 0 c [] hl
    · obtain ⟨b, off, _, hA, _⟩ := h.at_ (List.getElem?_eq_getElem hp)
      injection hA with hA
      subst hA
      rw [← strOfNums_bytes]
      refine run_convert_bytes_arg w src e hs he b off bs.length c _ (by simp) (fun i hi => ?_) dst hd
      obtain ⟨b', off', cs, hA', _, hr, hcs⟩ := h.at_ (List.getElem?_eq_getElem hi)
      injection hA' with hA'
      injection hA' with e1 e2
      subst e1 e2
      cases hr
      have := hcs 0 _ rfl
      simpa [rpByte, List.getD_eq_getElem?_getD, hi] using this
end Go.Proofs.YtkodcoianakjoaaDoor
