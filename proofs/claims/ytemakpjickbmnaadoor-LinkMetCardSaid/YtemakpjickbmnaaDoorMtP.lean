/- LinkMet plainly: routines that nobody calls are never met. -/
import Derived.Test.YtemakpjickbmnaaDoorLawA
import Derived.Test.YtemakpjickbmnaaDoorMachC
namespace Go.Proofs.YtemakpjickbmnaaDoor
open Go.RowKit
set_option linter.unusedSimpArgs false
set_option linter.unusedVariables false

def hasRt (rs : List Routine) (nm : ByteArray) : Bool := rs.any fun r => decide (r.name = nm)
def secR (s : Section) : Routine := ⟨s.name, s.code⟩
/-- The routines of those sections that are none yet. -/
def restR (rs : List Routine) (S : List Section) : List Routine := (S.filter fun s => !(hasRt rs s.name)).map secR
theorem restR_step {rs : List Routine} {S : List Section} {k : Nat} {s : Section} (h : S[k]? = some s) : restR rs (S.take (k + 1)) = restR rs (S.take k) ++ (if hasRt rs s.name = true then [] else [secR s]) := by
  obtain ⟨hk, e⟩ := List.getElem?_eq_some_iff.1 h
  unfold restR
  rw [List.take_succ_eq_append_getElem hk, List.filter_append, List.map_append, e]
  congr 1
  cases hh : hasRt rs s.name <;> simp [hh]
theorem restR_len (rs : List Routine) (S : List Section) : (restR rs S).length ≤ S.length := by
  unfold restR
  rw [List.length_map]
  exact List.length_filter_le _ _
theorem hasRt_step {rs : List Routine} {k : Nat} {r : Routine} {nm : ByteArray} (h : rs[k]? = some r) : hasRt (rs.take (k + 1)) nm = (hasRt (rs.take k) nm || decide (r.name = nm)) := by
  obtain ⟨hk, e⟩ := List.getElem?_eq_some_iff.1 h
  unfold hasRt
  rw [List.take_succ_eq_append_getElem hk, List.any_append, e]
  simp
theorem codesI_more (gs : List Global) (rs es : List Routine) : codesI ⟨gs, rs ++ es⟩ = codesI ⟨gs, rs⟩ ++ codesI ⟨gs, es⟩ := by
  unfold codesI
  simp
theorem next_more {cs ds : List (List Mac)} {c : Frm} (h : FrmOk cs c) : nextM (cs ++ ds) c = nextM cs c := by
  unfold nextM
  rw [List.getD_eq_getElem?_getD (l := cs ++ ds), List.getElem?_append_left h.rt, ← List.getD_eq_getElem?_getD]
theorem step_more {cs ds : List (List Mac)} {s : MS} (h : MInv cs s) : stepM (cs ++ ds) s = stepM cs s := by
  have he := h.each
  unfold stepM
  cases hc : s.calls with
  | nil => rfl
  | cons c r =>
    simp only []
    rw [next_more (he c (by rw [hc]; simp))]
theorem run_rest {cs ds : List (List Mac)} (hc : CodesOk cs) : ∀ (f : Nat) (s : MS), MInv cs s → runM (cs ++ ds) f s = runM cs f s ∧ metM (cs ++ ds) f s = metM cs f s ∧ ∀ p ∈ metM cs f s, p.1 < cs.length
  | 0, s, h => ⟨rfl, rfl, fun p hp => by simp [metM] at hp⟩
  | f + 1, s, h => by
    obtain ⟨h1, h2, h3⟩ := run_rest (ds := ds) hc f _ (h.step hc)
    rw [runM, runM, metM, metM, step_more h]
    cases ho : s.over
    · simp only [Bool.false_eq_true, if_false]
      rw [h1]
      refine ⟨rfl, ?_, ?_⟩
      · cases hk : s.calls with
        | nil => rfl
        | cons c r => simp only []; rw [h2]
      · cases hk : s.calls with
        | nil => intro p hp; cases hp
        | cons c r =>
          intro p hp
          rcases List.mem_cons.1 hp with e | e
          · rw [e]
            exact (h.each c (by rw [hk]; simp)).rt
          · exact h3 p e
    · simp
/-- A run of an image is a run of the image with more routines. -/
theorem rest_run {gs : List Global} {rs es : List Routine} (h : ImgOk ⟨gs, rs⟩) (f : Nat) (inp : List Int) :
    runM (codesI ⟨gs, rs ++ es⟩) f (beginM (memI gs) inp) = runM (codesI ⟨gs, rs⟩) f (beginM (memI gs) inp) ∧
    ∀ i k, rs.length ≤ i → (metM (codesI ⟨gs, rs ++ es⟩) f (beginM (memI gs) inp)).count (i, k) = 0 := by
  have hc := img_codes h
  obtain ⟨h1, h2, h3⟩ := run_rest (ds := codesI ⟨gs, es⟩) hc f _ (MInv.begin hc (inp := inp) (memI_few h.glob))
  rw [codesI_more]
  refine ⟨h1, fun i k hi => ?_⟩
  have h2' : metM (codesI ⟨gs, rs⟩ ++ codesI ⟨gs, es⟩) f (beginM (memI gs) inp) = metM (codesI ⟨gs, rs⟩) f (beginM (memI gs) inp) := h2
  rw [h2', List.count_eq_zero]
  intro hp
  have := h3 _ hp
  rw [codesI_len] at this
  have h4 : i < rs.length := this
  omega
theorem kit_calls0 {raw : List (List Int)} (hr : ∀ l ∈ raw, ∀ x ∈ l, I64 x) {k : Nat} {s : Section} (h : (objOf raw 6 true).sections[k]? = some s) : ∃ c, readL s.code = some c ∧ ∀ m ∈ c, m.op = 44 → m.n = 0 := by
  obtain ⟨_, rfl⟩ := objOf_at h
  have := kit_sec hr 6 true k
  refine ⟨_, this.read, fun m hm ho => ?_⟩
  obtain ⟨x, hx, rfl⟩ := List.mem_map.1 hm
  unfold ownM at ho ⊢
  by_cases e : x.op = 44
  · rw [if_pos e]
  · rw [if_neg e] at ho
    exact absurd ho e
theorem restR_at {raw : List (List Int)} {rs : List Routine} {k : Nat} {r : Routine} (h : (restR rs (objOf raw 6 true).sections)[k]? = some r) : ∃ (i : Nat) (s : Section), (objOf raw 6 true).sections[i]? = some s ∧ r = secR s ∧ hasRt rs s.name = false := by
  have hm := List.mem_of_getElem? h
  obtain ⟨s, hs, e⟩ := List.mem_map.1 hm
  obtain ⟨h1, h2⟩ := List.mem_filter.1 hs
  obtain ⟨i, hi, ei⟩ := List.mem_iff_getElem.1 h1
  exact ⟨i, s, by rw [List.getElem?_eq_getElem hi, ei], e.symm, by simpa using h2⟩
theorem secs_once {o : Object} (h : ObjOk o) : (o.sections.map (·.name)).Nodup := by
  rw [List.nodup_iff_pairwise_ne, List.pairwise_iff_getElem]
  intro i j hi hj hij
  rw [List.length_map] at hi hj
  rw [List.getElem_map, List.getElem_map]
  intro e
  have := (h.secs j _ (List.getElem?_eq_getElem hj)).noS
  exact hasS_false.1 this o.sections[i] (List.mem_iff_getElem.2 ⟨i, by rw [List.length_take]; omega, by rw [List.getElem_take]⟩) e
theorem restR_once {rs : List Routine} {o : Object} (h : ObjOk o) : ((restR rs o.sections).map (·.name)).Nodup := by
  unfold restR
  rw [List.map_map]
  exact (List.Sublist.map (Routine.name ∘ secR) (List.filter_sublist (p := fun s : Section => !(hasRt rs s.name)) (l := o.sections))).nodup (secs_once h)
theorem all_img {raw : List (List Int)} (hr : ∀ l ∈ raw, ∀ x ∈ l, I64 x) {rs : List Routine} (h : ImgOk ⟨kitGlobals_, rs⟩) (h6 : rs.length ≤ 6) : ImgOk ⟨kitGlobals_, rs ++ restR rs (objOf raw 6 true).sections⟩ := by
  have hs6 := kit_secs raw
  have hrl := restR_len rs (objOf raw 6 true).sections
  have hp : 0 < rs.length := h.some_
  have hok : ObjOk (objOf raw 6 true) := objOf_ok (by decide) hr
  refine ⟨h.glob, ?_, ?_, fun k r hk => ?_⟩
  · show 0 < (rs ++ _).length
    rw [List.length_append]
    omega
  · show (rs ++ _).length ≤ 40
    rw [List.length_append]
    omega
  have hk' : (rs ++ restR rs (objOf raw 6 true).sections)[k]? = some r := hk
  rcases Nat.lt_or_ge k rs.length with hlt | hge
  · rw [List.getElem?_append_left hlt] at hk'
    obtain ⟨e1, e2, e3, e4, c, e5, e6⟩ := h.each k r hk'
    refine ⟨e1, e2, e3, fun j x hj hx => ?_, c, e5, fun x hx ho => ?_⟩
    · have hx' : (rs ++ restR rs (objOf raw 6 true).sections)[j]? = some x := hx
      rw [List.getElem?_append_left (by omega)] at hx'
      exact e4 j x hj hx'
    · have := e6 x hx ho
      have h1 : x.n < (rs.length : Int) := this
      show x.n < (((rs ++ restR rs (objOf raw 6 true).sections).length : Nat) : Int)
      rw [List.length_append]
      omega
  · rw [List.getElem?_append_right hge] at hk'
    obtain ⟨i, s, hs, rfl, hno⟩ := restR_at hk'
    have hsec := hok.secs i s hs
    obtain ⟨c, hc1, hc2⟩ := kit_calls0 hr hs
    refine ⟨hsec.good, fun e => by omega, hsec.noG, fun j x hj hx e => ?_, c, hc1, fun x hx ho => ?_⟩
    · have hx' : (rs ++ restR rs (objOf raw 6 true).sections)[j]? = some x := hx
      rcases Nat.lt_or_ge j rs.length with hjl | hjg
      · rw [List.getElem?_append_left hjl] at hx'
        unfold hasRt at hno
        rw [List.any_eq_false] at hno
        exact hno x (List.mem_of_getElem? hx') (by simp; exact e)
      · rw [List.getElem?_append_right hjg] at hx'
        obtain ⟨a1, a2⟩ := List.getElem?_eq_some_iff.1 hx'
        obtain ⟨b1, b2⟩ := List.getElem?_eq_some_iff.1 hk'
        have := List.pairwise_iff_getElem.1 (List.nodup_iff_pairwise_ne.1 (restR_once (rs := rs) hok)) (j - rs.length) (k - rs.length) (by simpa using a1) (by simpa using b1) (by omega)
        rw [List.getElem_map, List.getElem_map, a2, b2] at this
        exact this e
    · rw [hc2 x hx ho]
      show (0 : Int) < (((rs ++ restR rs (objOf raw 6 true).sections).length : Nat) : Int)
      rw [List.length_append]
      omega
end Go.Proofs.YtemakpjickbmnaaDoor
