/- What is written is read back: an object's bytes give the object. -/
import Derived.Test.YtkodcoianakjoaaDoorKitD
import Derived.Test.YtkodcoianakjoaaDoorLoadP
import Derived.Test.YtkodcoianakjoaaDoorAppA
namespace Go.Proofs.YtkodcoianakjoaaDoor
open Go.RowKit
set_option linter.unusedSimpArgs false
set_option linter.unusedVariables false

/-- A reading takes just what has been written of x. -/
def Into {α : Type} (one : Prs α) (f : α → List UInt8) (x : α) : Prop := ∀ r, one (f x ++ r) = some (x, r)
theorem manyL_of {n : Nat} {r : List UInt8} (hn : n < 18446744073709551616) (h : n ≤ r.length) : manyL (numB n ++ r) = some (n, r) :=
  manyL_some.2 ⟨numberL_of hn r, h⟩
theorem smallL_of {n : Nat} (h : n ≤ 90000) (r : List UInt8) : smallL (numB n ++ r) = some (n, r) := smallL_some.2 ⟨numberL_of (by omega) r, h⟩
theorem textL_of {s : ByteArray} (hs : s.size < 18446744073709551616) : Into textL textB s := fun r => by
  have hl : s.data.toList.length = s.size := by rw [Array.length_toList]; rfl
  refine textL_some.2 ⟨s.size, s.data.toList ++ r, ?_, ?_, ?_⟩
  · unfold textB
    rw [List.append_assoc]
    exact manyL_of hs (by rw [List.length_append, hl]; omega)
  · rw [← hl, List.take_left]
    simp [strL]
  · rw [← hl, List.drop_left]
theorem intL_of {x : Int} (h : I64 x) : Into intL (fun n => numB (foldN n)) x := fun r => by
  show intL (numB (foldN x) ++ r) = _
  unfold intL
  rw [numberL_of (foldN_lt h.1 h.2)]
  simp [unfoldN_foldN]
theorem timesL_of {α : Type} {one : Prs α} {f : α → List UInt8} : ∀ (xs : List α) (r : List UInt8), (∀ x ∈ xs, Into one f x) → timesL one xs.length (xs.flatMap f ++ r) = some (xs, r)
  | [], r, _ => rfl
  | x :: xs, r, h => by
    rw [List.length_cons, timesL, List.flatMap_cons, List.append_assoc, h x (by simp)]
    simp only [Option.bind_some]
    rw [timesL_of xs r (fun y hy => h y (by simp [hy]))]
    rfl
theorem flat_long {α : Type} {f : α → List UInt8} (hf : ∀ x, 0 < (f x).length) : ∀ xs : List α, xs.length ≤ (xs.flatMap f).length
  | [] => by simp
  | x :: xs => by
    have := flat_long hf xs
    have := hf x
    rw [List.flatMap_cons, List.length_append, List.length_cons]
    omega
theorem listL_of {α : Type} {one : Prs α} {f : α → List UInt8} (hf : ∀ x, 0 < (f x).length) {xs : List α} (hn : xs.length < 18446744073709551616) (h : ∀ x ∈ xs, Into one f x) (r : List UInt8) : listL one (numB xs.length ++ (xs.flatMap f ++ r)) = some (xs, r) := by
  unfold listL
  rw [manyL_of hn (by rw [List.length_append]; have := flat_long hf xs; omega)]
  simp only [Option.bind_some]
  exact timesL_of xs r h
theorem numB_pos_ (n : Nat) : 0 < (numB n).length := by
  unfold numB numF
  split <;> simp
theorem globalL_of {g : Global} (h1 : g.name.size < 18446744073709551616) (h2 : 0 ≤ g.size ∧ g.size ≤ 90000) (h3 : g.init.length < 18446744073709551616) (h4 : ∀ x ∈ g.init, I64 x) : Into globalL globB g := fun r => by
  unfold globB initB
  simp only [List.append_assoc]
  unfold globalL
  rw [textL_of h1]
  simp only [Option.bind_some]
  rw [smallL_of (by omega)]
  simp only [Option.bind_some]
  rw [listL_of (one := intL) (f := fun n => numB (foldN n)) (fun x => numB_pos_ _) h3 (fun x hx => intL_of (h4 x hx))]
  simp only [Option.map_some]
  rw [Int.toNat_of_nonneg h2.1]
theorem mendL_of {m : Mend} (h1 : 0 ≤ m.at_ ∧ m.at_ ≤ 90000) (h2 : m.name.size < 18446744073709551616) : Into mendL mendB m := fun r => by
  unfold mendB
  rw [List.append_assoc]
  unfold mendL
  rw [smallL_of (by omega)]
  simp only [Option.bind_some]
  rw [textL_of h2]
  simp only [Option.map_some]
  rw [Int.toNat_of_nonneg h1.1]
theorem sectionL_of {s : Section} (h1 : s.name.size < 18446744073709551616) (h2 : s.code.length < 18446744073709551616) (h3 : s.mends.length < 18446744073709551616) (h4 : ∀ m ∈ s.mends, Into mendL mendB m) : Into sectionL secB s := fun r => by
  unfold secB mendsB
  simp only [List.append_assoc]
  unfold sectionL
  rw [textL_of h1]
  simp only [Option.bind_some]
  rw [textL_of (by rw [strL_size]; exact h2)]
  simp only [Option.bind_some]
  rw [listL_of (one := mendL) (f := mendB) (fun x => by unfold mendB; have := numB_pos_ x.at_.toNat; rw [List.length_append]; omega) h3 h4]
  simp [strL]
theorem textB_pos (s : ByteArray) : 0 < (textB s).length := by unfold textB; have := numB_pos_ s.size; rw [List.length_append]; omega
theorem objectL_of {o : Object} (h1 : o.globals.length < 18446744073709551616) (h2 : o.sections.length < 18446744073709551616) (h3 : ∀ g ∈ o.globals, Into globalL globB g) (h4 : ∀ s ∈ o.sections, Into sectionL secB s) : objectL ((bodyB o).drop 3) = some o := by
  have e : (bodyB o).drop 3 = numB o.globals.length ++ (o.globals.flatMap globB ++ (numB o.sections.length ++ (o.sections.flatMap secB ++ []))) := by
    unfold bodyB globsB secsB
    simp [List.append_assoc]
  rw [e]
  unfold objectL
  rw [listL_of (one := globalL) (f := globB) (fun g => by unfold globB; have := textB_pos g.name; simp only [List.length_append]; omega) h1 h3]
  simp only [Option.bind_some]
  rw [listL_of (one := sectionL) (f := secB) (fun g => by unfold secB; have := textB_pos g.name; simp only [List.length_append]; omega) h2 h4]
  simp
/-- An object that may be is read out of its bytes. -/
theorem objectL_ok {o : Object} (h : ObjOk o) (hw : Wide o) : objectL ((bodyB o).drop 3) = some o := by
  obtain ⟨g1, g2⟩ := globFault_ok h.glob
  have hsec : ∀ s ∈ o.sections, goodName s.name = true ∧ secF s = 0 := fun s hs => by
    obtain ⟨j, hj, e⟩ := List.mem_iff_getElem.1 hs
    have := h.secs j s (by rw [List.getElem?_eq_getElem hj, e])
    exact ⟨this.good, this.fine⟩
  refine objectL_of (by omega) (by have := h.few; omega) (fun g hg => ?_) (fun s hs => ?_)
  · have hg2 := g2 g hg
    have h1 := hg2.low
    have h2 := hg2.high
    have h3 := hg2.fits
    have h4 := (goodName_len hg2.good).2
    exact globalL_of (by omega) (by omega) (by omega) (hw g hg)
  · obtain ⟨a, b⟩ := hsec s hs
    obtain ⟨c1, c2, c3⟩ := secF_ok b
    have h4 := (goodName_len a).2
    refine sectionL_of (by omega) (by omega) (by omega) (fun m hm => ?_)
    obtain ⟨d1, d2, d3⟩ := c3 m hm
    have h5 := (goodName_len d3).2
    exact mendL_of (by omega) (by omega)
theorem bodyB_head (o : Object) : (bodyB o).take 3 = [79, 66, 74] ∧ 5 ≤ (bodyB o).length := by
  have h1 := numB_pos_ o.globals.length
  have h2 := numB_pos_ o.sections.length
  unfold bodyB
  constructor
  · rfl
  · simp only [List.length_append, List.length_cons, List.length_nil]
    omega
theorem loadedL_saved {o : Object} (h : ObjOk o) (hw : Wide o) : loadedL (savedB o) = some o := by
  have hb := bodyB_head o
  have hs := sumL_lt (bodyB o)
  have hl : (savedB o).length = (bodyB o).length + 2 := by unfold savedB sumB; simp
  have ht : (savedB o).take ((savedB o).length - 2) = bodyB o := by
    rw [hl, Nat.add_sub_cancel]
    unfold savedB sumB
    rw [List.take_left]
  have e1 : (UInt8.ofNat (sumL (bodyB o) / 256)).toNat = sumL (bodyB o) / 256 := by rw [UInt8.toNat_ofNat']; omega
  have e2 : (UInt8.ofNat (sumL (bodyB o) % 256)).toNat = sumL (bodyB o) % 256 := by rw [UInt8.toNat_ofNat']; omega
  have ha : (savedB o).getD ((savedB o).length - 2) 0 = UInt8.ofNat (sumL (bodyB o) / 256) := by
    rw [hl, Nat.add_sub_cancel]
    unfold savedB sumB
    simp [List.getD_eq_getElem?_getD]
  have hc : (savedB o).getD ((savedB o).length - 1) 0 = UInt8.ofNat (sumL (bodyB o) % 256) := by
    rw [hl, show (bodyB o).length + 2 - 1 = (bodyB o).length + 1 from rfl]
    unfold savedB sumB
    simp [List.getD_eq_getElem?_getD]
  unfold loadedL
  rw [if_pos]
  · rw [ht]
    exact objectL_ok h hw
  · unfold headOk
    rw [ht, ha, hc, e1, e2]
    refine ⟨by omega, ?_, by omega⟩
    unfold savedB sumB
    rw [List.take_append_of_le_length (by omega)]
    exact hb.1
theorem loadO_saved {o : Object} (h : ObjOk o) (hw : Wide o) (hl : (savedB o).length ≤ 90000) : loadO (savedB o) = o ∧ loadF (savedB o) = (0, 0) := by
  have ho := (objOk_iff o).2 h
  unfold loadO loadF
  rw [if_neg (by omega), if_neg (by omega), loadedL_saved h hw]
  simp [ho]
end Go.Proofs.YtkodcoianakjoaaDoor
