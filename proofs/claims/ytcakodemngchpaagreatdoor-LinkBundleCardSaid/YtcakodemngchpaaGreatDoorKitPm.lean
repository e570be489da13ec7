/- The object that is made of raw numbers, plainly: it may be. The object that is made of raw numbers may be. The object that is made of raw numbers may be: its sections, its names, its size. The bytes of the object that is made of raw numbers are few. The objects that the link's and the bundle's laws make of raw numbers, plainly. -/
import Derived.Test.YtcakodemngchpaaGreatDoorKitPl
import Derived.Test.YtcakodemngchpaaGreatDoorPlainA
import Derived.Test.YtcakodemngchpaaGreatDoorAppA
import Derived.Test.YtcakodemngchpaaGreatDoorBackA
import Derived.Test.YtcakodemngchpaaGreatDoorLinkP2
/- The object that is made of raw numbers, plainly: it may be. -/
namespace Go.Proofs.YtcakodemngchpaaGreatDoor
open Go.RowKit
set_option linter.unusedSimpArgs false
set_option linter.unusedVariables false

def nameF (k : Nat) : ByteArray := ⟨#[102, UInt8.ofNat (48 + k)]⟩
def nameMain : ByteArray := ⟨#[109, 97, 105, 110]⟩
def nameAway : ByteArray := ⟨#[97, 119, 97, 121]⟩
def nameS (main : Bool) (k : Nat) : ByteArray := if main = true ∧ k = 0 then nameMain else nameF k
def mendName (len n : Nat) (main : Bool) (x : Int) : ByteArray := if (len : Int) ≤ x ∨ (n : Int) ≤ x then nameAway else if x = 0 ∧ main = true then nameMain else nameF x.toNat
def mendsAt (f : Int → ByteArray) : Nat → List Mac → List Mend
  | _, [] => []
  | k, m :: t => if m.op = 44 then ⟨(k : Int), f m.n⟩ :: mendsAt f (k + 1) t else mendsAt f (k + 1) t
def ownM (m : Mac) : Mac := if m.op = 44 then ⟨m.op, m.dst, m.a, m.b, 0⟩ else m
def secOf (raw : List (List Int)) (n : Nat) (main : Bool) (i : Nat) : Section :=
  ⟨nameS main i, codeB ((codeOf (raw.getD i []) 8 4).map ownM), mendsAt (mendName raw.length n main) 0 (codeOf (raw.getD i []) 8 4)⟩
def kitGlobals_ : List Global := [⟨⟨#[103]⟩, 2, [5]⟩, ⟨⟨#[104]⟩, 1, []⟩]
def objOf (raw : List (List Int)) (n : Nat) (main : Bool) : Object := ⟨kitGlobals_, (List.range (min raw.length n)).map (secOf raw n main)⟩

theorem mendsAt_append (f : Int → ByteArray) : ∀ (k : Nat) (a b : List Mac), mendsAt f k (a ++ b) = mendsAt f k a ++ mendsAt f (k + a.length) b
  | k, [], b => by simp [mendsAt]
  | k, m :: a, b => by
    simp only [List.cons_append, mendsAt, List.length_cons]
    rw [mendsAt_append f (k + 1) a b, show k + 1 + a.length = k + (a.length + 1) from by omega]
    split <;> simp
theorem mendsAt_len (f : Int → ByteArray) : ∀ (k : Nat) (a : List Mac), (mendsAt f k a).length = (a.filter fun m => m.op == 44).length
  | k, [] => rfl
  | k, m :: a => by
    simp only [mendsAt, List.filter_cons]
    by_cases h : m.op = 44
    · rw [if_pos h, if_pos (by simp [h]), List.length_cons, List.length_cons, mendsAt_len f (k + 1) a]
    · rw [if_neg h, if_neg (by simp [h]), mendsAt_len f (k + 1) a]
theorem mendsAt_mem (f : Int → ByteArray) : ∀ (k : Nat) (a : List Mac) (x : Mend), x ∈ mendsAt f k a → ∃ j : Nat, j < a.length ∧ x = ⟨((k + j : Nat) : Int), f (a.getD j ⟨0, 0, 0, 0, 0⟩).n⟩ ∧ (a.getD j ⟨0, 0, 0, 0, 0⟩).op = 44
  | k, [], x, h => by simp [mendsAt] at h
  | k, m :: a, x, h => by
    simp only [mendsAt] at h
    have rec_ : x ∈ mendsAt f (k + 1) a → ∃ j : Nat, j < (m :: a).length ∧ x = ⟨((k + j : Nat) : Int), f ((m :: a).getD j ⟨0, 0, 0, 0, 0⟩).n⟩ ∧ ((m :: a).getD j ⟨0, 0, 0, 0, 0⟩).op = 44 := fun h => by
      obtain ⟨j, h1, h2, h3⟩ := mendsAt_mem f (k + 1) a x h
      refine ⟨j + 1, by simp; omega, ?_, by simpa using h3⟩
      rw [h2, show k + 1 + j = k + (j + 1) from by omega]
      simp
    by_cases hm : m.op = 44
    · rw [if_pos hm] at h
      rcases List.mem_cons.1 h with h | h
      · exact ⟨0, by simp, by rw [h]; simp, by simpa using hm⟩
      · exact rec_ h
    · rw [if_neg hm] at h
      exact rec_ h
theorem mendsAt_up (f : Int → ByteArray) : ∀ (k : Nat) (a : List Mac), (mendsAt f k a).Pairwise fun x y => x.at_ < y.at_
  | k, [] => by simp [mendsAt]
  | k, m :: a => by
    simp only [mendsAt]
    split
    · refine List.pairwise_cons.2 ⟨fun y hy => ?_, mendsAt_up f (k + 1) a⟩
      obtain ⟨j, _, h2, _⟩ := mendsAt_mem f (k + 1) a y hy
      rw [h2]
      show (k : Int) < ((k + 1 + j : Nat) : Int)
      omega
    · exact mendsAt_up f (k + 1) a
theorem mendsFrom_fine (l : List Mac) (ms : List Mend) (h1 : ∀ m ∈ ms, 0 ≤ m.at_ ∧ m.at_ < (l.length : Int) ∧ (l.getD m.at_.toNat ⟨0, 0, 0, 0, 0⟩).op = 44 ∧ (l.getD m.at_.toNat ⟨0, 0, 0, 0, 0⟩).n = 0 ∧ goodName m.name = true) (h2 : ms.Pairwise fun x y => x.at_ < y.at_) (h3 : (l.filter fun m => m.op == 44).length = ms.length) : ∀ (f i : Nat), f + i = ms.length → mendsFrom l ms f i = 0
  | 0, i, hi => by rw [mendsFrom, if_pos h3]
  | f + 1, i, hi => by
    have hlt : i < ms.length := by omega
    obtain ⟨g1, g2, g3, g4, g5⟩ := h1 _ (List.getElem_mem hlt)
    rw [mendsFrom, List.getElem?_eq_getElem hlt]
    simp only []
    rw [if_neg (by omega), if_neg (by simpa using g3), if_neg, if_neg (by rw [g5]; simp)]
    · exact mendsFrom_fine l ms h1 h2 h3 f (i + 1) (by omega)
    · rintro (h | ⟨h, h'⟩)
      · exact h g4
      · have hi1 : i - 1 < ms.length := by omega
        have := List.pairwise_iff_getElem.1 h2 (i - 1) i hi1 hlt (by omega)
        rw [List.getD_eq_getElem?_getD, List.getElem?_eq_getElem hi1] at h'
        simp at h'
        omega
end Go.Proofs.YtcakodemngchpaaGreatDoor

/- The object that is made of raw numbers may be. -/
namespace Go.Proofs.YtcakodemngchpaaGreatDoor
open Go.RowKit
set_option linter.unusedSimpArgs false
set_option linter.unusedVariables false

theorem getD_I64 {l : List Int} (h : ∀ x ∈ l, I64 x) (i : Nat) : I64 (l.getD i 0) := by
  rcases Nat.lt_or_ge i l.length with hlt | hge
  · rw [List.getD_eq_getElem?_getD, List.getElem?_eq_getElem hlt]
    exact h _ (List.getElem_mem hlt)
  · rw [List.getD_eq_getElem?_getD, List.getElem?_eq_none hge]
    exact ⟨by decide, by decide⟩
theorem codeOf_len (l : List Int) (n r : Nat) : (codeOf l n r).length = codeMany l n + 1 := by unfold codeOf; simp
theorem codeOf_mem {l : List Int} {n r : Nat} {m : Mac} (h : m ∈ codeOf l n r) : (∃ i, m = macAt l (codeMany l n + 1) r i) ∨ m = ⟨45, 0, 0, 0, 0⟩ := by
  unfold codeOf at h
  rcases List.mem_append.1 h with h | h
  · obtain ⟨i, _, e⟩ := List.mem_map.1 h
    exact .inl ⟨i, e.symm⟩
  · exact .inr (by simpa using h)
theorem macOf_true (a b n : Int) (many r : Nat) (hn : I64 n) (hm : 0 < many) (hm1 : many ≤ 1000000) (hr1 : r ≤ 1000000) : TrueMac (macOf a b n many r) := by
  refine ⟨macOf_good a b n many r hn hm hm1 hr1, fun h => ?_, fun h => ?_, fun h => ?_, fun h => ?_⟩
  · show (if (shapeOf (opOf a r)).d then b % 4 else 0) = 0
    rw [show (shapeOf (opOf a r)).d = false from h]
    rfl
  · show (if (shapeOf (opOf a r)).a then b.tdiv 4 % 4 else 0) = 0
    rw [show (shapeOf (opOf a r)).a = false from h]
    rfl
  · show (if (shapeOf (opOf a r)).b then b.tdiv 16 % 4 else 0) = 0
    rw [show (shapeOf (opOf a r)).b = false from h]
    rfl
  · show numOf (opOf a r) b n many r = 0
    unfold numOf
    rw [show (shapeOf (opOf a r)).n = 0 from h]
    rfl
theorem ret_true : TrueMac ⟨45, 0, 0, 0, 0⟩ := by
  refine ⟨⟨by decide, fun x hx => ?_, by decide, by decide⟩, fun _ => rfl, fun _ => rfl, fun _ => rfl, fun _ => rfl⟩
  have : regsOf ⟨45, 0, 0, 0, 0⟩ = [] := by decide
  rw [this] at hx
  cases hx
theorem codeOf_true {l : List Int} {n r : Nat} (hl : ∀ x ∈ l, I64 x) (hn : n ≤ 1000) (hr : r ≤ 1000) : ∀ m ∈ codeOf l n r, TrueMac m := fun m hm => by
  have hmany : codeMany l n ≤ 1000 := by unfold codeMany; omega
  rcases codeOf_mem hm with ⟨i, rfl⟩ | rfl
  · exact macOf_true _ _ _ _ _ (getD_I64 hl _) (by omega) (by omega) (by omega)
  · exact ret_true
theorem codeOf_fine {l : List Int} {n r : Nat} : ∀ m ∈ codeOf l n r, macF m (codeOf l n r).length = 0 := fun m hm => by
  rw [codeOf_len]
  rcases codeOf_mem hm with ⟨i, rfl⟩ | rfl
  · exact macOf_fine _ _ _ _ _ _ (by omega) (by omega)
  · rfl
theorem codeOf_call {l : List Int} {n r : Nat} : ∀ m ∈ codeOf l n r, m.op = 44 → 0 ≤ m.n ∧ m.n < (r : Int) := fun m hm h => by
  rcases codeOf_mem hm with ⟨i, rfl⟩ | rfl
  · have h' : opOf (l.getD (3 * i) 0) r = 44 := h
    have hr := opOf_routine (l.getD (3 * i) 0) r (by rw [h']; rfl)
    show 0 ≤ numOf (opOf (l.getD (3 * i) 0) r) _ _ _ r ∧ numOf (opOf (l.getD (3 * i) 0) r) _ _ _ r < (r : Int)
    rw [h']
    unfold numOf
    have := mod_range (l.getD (3 * i + 2) 0) r (by omega)
    simpa [show (shapeOf 44).n = 4 from rfl] using this
  · cases h
theorem ownM_op (m : Mac) : (ownM m).op = m.op := by unfold ownM; split <;> rfl
theorem ownM_true {m : Mac} (h : TrueMac m) : TrueMac (ownM m) := by
  unfold ownM
  split
  · exact ⟨⟨h.known, h.regs, (show I64 0 from ⟨by decide, by decide⟩)⟩, h.dst, h.a, h.b, fun _ => rfl⟩
  · exact h
theorem ownM_fine {m : Mac} {len : Int} (ht : TrueMac m) (h : macF m len = 0) : macF (ownM m) len = 0 := by
  unfold ownM
  split
  · rename_i ho
    have h1 := ht.dst (by rw [ho]; rfl)
    have h2 := ht.a (by rw [ho]; rfl)
    have h3 := ht.b (by rw [ho]; rfl)
    rw [ho, h1, h2, h3]
    rfl
  · exact h
theorem own_fault {l : List Int} {n r : Nat} (hl : ∀ x ∈ l, I64 x) (hn : n ≤ 1000) (hr : r ≤ 1000) : macsFault ((codeOf l n r).map ownM) = (0, 0) := by
  have hmany : codeMany l n ≤ 1000 := by unfold codeMany; omega
  refine macsFault_fine (by rw [List.length_map, codeOf_len]; omega) (by unfold codeOf; simp) (fun m hm => ?_) ?_
  · obtain ⟨x, hx, rfl⟩ := List.mem_map.1 hm
    rw [List.length_map]
    exact ownM_fine (codeOf_true hl hn hr x hx) (codeOf_fine x hx)
  · unfold codeOf
    simp [List.getD_eq_getElem?_getD, ownM]
end Go.Proofs.YtcakodemngchpaaGreatDoor

/- The object that is made of raw numbers may be: its sections, its names, its size. -/
namespace Go.Proofs.YtcakodemngchpaaGreatDoor
open Go.RowKit
set_option linter.unusedSimpArgs false
set_option linter.unusedVariables false

theorem good_names : goodName nameMain = true ∧ goodName nameAway = true ∧ ∀ k : Nat, k < 10 → goodName (nameF k) = true := by
  refine ⟨by decide +kernel, by decide +kernel, by decide +kernel⟩
theorem good_nameS (main : Bool) (k : Nat) (hk : k < 10) : goodName (nameS main k) = true := by
  unfold nameS
  split
  · exact good_names.1
  · exact good_names.2.2 k hk
theorem good_mendName (len n : Nat) (main : Bool) (x : Int) (h : 0 ≤ x ∧ x < 10) : goodName (mendName len n main x) = true := by
  unfold mendName
  split
  · exact good_names.2.1
  · split
    · exact good_names.1
    · exact good_names.2.2 _ (by omega)
theorem nameS_ne : ∀ main : Bool, ∀ j : Nat, j < 10 → ∀ k : Nat, k < 10 → j ≠ k → nameS main j ≠ nameS main k := by decide +kernel
theorem nameS_glob : ∀ main : Bool, ∀ k : Nat, k < 10 → hasG kitGlobals_ (nameS main k) = false := by decide +kernel
theorem kit_glob : globFault kitGlobals_ = (0, 0) := by decide +kernel
theorem codeB_len_ (l : List Mac) : (codeB l).length ≤ 14 * l.length := by
  induction l with
  | nil => simp [codeB]
  | cons m l ih =>
    have := macB_len m
    unfold codeB at *
    rw [List.flatMap_cons, List.length_append, List.length_cons]
    omega
theorem map_getD {l : List Mac} {j : Nat} (h : j < l.length) : (l.map ownM).getD j ⟨0, 0, 0, 0, 0⟩ = ownM (l.getD j ⟨0, 0, 0, 0, 0⟩) := by
  rw [List.getD_eq_getElem?_getD, List.getD_eq_getElem?_getD, List.getElem?_map, List.getElem?_eq_getElem h]
  rfl
theorem own_read {l : List Int} (hl : ∀ x ∈ l, I64 x) : readL (codeB ((codeOf l 8 4).map ownM)) = some ((codeOf l 8 4).map ownM) := by
  have hlen : ((codeOf l 8 4).map ownM).length ≤ 9 := by rw [List.length_map, codeOf_len]; unfold codeMany; omega
  have := codeB_len_ ((codeOf l 8 4).map ownM)
  refine readL_of (fun m hm => ?_) (own_fault hl (by decide) (by decide)) (by omega)
  obtain ⟨x, hx, rfl⟩ := List.mem_map.1 hm
  exact ownM_true (codeOf_true hl (by decide) (by decide) x hx)
theorem secOf_fine {raw : List (List Int)} {n : Nat} {main : Bool} {i : Nat} (hr : ∀ l ∈ raw, ∀ x ∈ l, I64 x) : secF (secOf raw n main i) = 0 := by
  have hl : ∀ x ∈ raw.getD i [], I64 x := by
    rcases Nat.lt_or_ge i raw.length with hlt | hge
    · rw [List.getD_eq_getElem?_getD, List.getElem?_eq_getElem hlt]
      exact hr _ (List.getElem_mem hlt)
    · rw [List.getD_eq_getElem?_getD, List.getElem?_eq_none hge]
      intro x hx
      cases hx
  unfold secF secOf
  simp only []
  rw [own_read hl]
  simp only []
  generalize hc : codeOf (raw.getD i []) 8 4 = c
  have hcall : ∀ m ∈ c, m.op = 44 → 0 ≤ m.n ∧ m.n < 4 := by rw [← hc]; exact codeOf_call
  refine mendsFrom_fine _ _ (fun m hm => ?_) (mendsAt_up _ _ _) ?_ _ _ (by simp)
  · obtain ⟨j, h1, h2, h3⟩ := mendsAt_mem _ _ _ _ hm
    rw [Nat.zero_add] at h2
    have e : c.getD j ⟨0, 0, 0, 0, 0⟩ ∈ c := by
      rw [List.getD_eq_getElem?_getD, List.getElem?_eq_getElem h1]
      exact List.getElem_mem h1
    subst h2
    simp only [Int.toNat_natCast]
    rw [List.length_map, map_getD h1, ownM_op]
    refine ⟨by omega, by omega, h3, ?_, good_mendName _ _ _ _ (by have := hcall _ e h3; omega)⟩
    unfold ownM
    rw [if_pos h3]
  · rw [mendsAt_len, List.filter_map, List.length_map]
    congr 1
    apply List.filter_congr
    intro x _
    simp [ownM_op]
theorem objOf_len (raw : List (List Int)) (n : Nat) (main : Bool) : (objOf raw n main).sections.length = min raw.length n := by unfold objOf; simp
theorem objOf_at {raw : List (List Int)} {n : Nat} {main : Bool} {k : Nat} {s : Section} (h : (objOf raw n main).sections[k]? = some s) : k < min raw.length n ∧ s = secOf raw n main k := by
  have hk := (List.getElem?_eq_some_iff.1 h).1
  rw [objOf_len] at hk
  unfold objOf at h
  rw [List.getElem?_map, List.getElem?_range hk] at h
  exact ⟨hk, (Option.some.inj h).symm⟩
theorem objOf_ok {raw : List (List Int)} {n : Nat} {main : Bool} (hn : n ≤ 10) (hr : ∀ l ∈ raw, ∀ x ∈ l, I64 x) : ObjOk (objOf raw n main) := by
  refine ⟨kit_glob, by rw [objOf_len]; omega, fun k s hs => ?_⟩
  obtain ⟨hk, rfl⟩ := objOf_at hs
  refine ⟨good_nameS _ _ (by omega), nameS_glob _ _ (by omega), ?_, secOf_fine hr⟩
  unfold hasS
  rw [List.any_eq_false]
  intro x hx
  obtain ⟨j, hj, e⟩ := List.mem_iff_getElem.1 hx
  rw [List.length_take] at hj
  have hj' : (objOf raw n main).sections[j]? = some x := by
    rw [List.getElem_take] at e
    rw [List.getElem?_eq_getElem (by omega), e]
  obtain ⟨hj2, rfl⟩ := objOf_at hj'
  have h : (secOf raw n main j).name ≠ (secOf raw n main k).name := nameS_ne main j (by omega) k (by omega) (by omega)
  simpa using h
theorem objOf_wide (raw : List (List Int)) (n : Nat) (main : Bool) : Wide (objOf raw n main) := by
  intro g hg x hx
  have hg' : g = ⟨⟨#[103]⟩, 2, [5]⟩ ∨ g = ⟨⟨#[104]⟩, 1, []⟩ := by simpa [objOf, kitGlobals_] using hg
  rcases hg' with rfl | rfl
  · obtain rfl : x = 5 := by simpa using hx
    exact ⟨by decide, by decide⟩
  · cases hx
end Go.Proofs.YtcakodemngchpaaGreatDoor

/- The bytes of the object that is made of raw numbers are few. -/
namespace Go.Proofs.YtcakodemngchpaaGreatDoor
open Go.RowKit
set_option linter.unusedSimpArgs false
set_option linter.unusedVariables false

theorem textB_few (s : ByteArray) : (textB s).length ≤ s.size + 10 := by
  have := numB_len s.size
  have e : s.data.toList.length = s.size := by rw [Array.length_toList]; rfl
  unfold textB
  rw [List.length_append, e]
  omega
theorem flat_few {α : Type} {f : α → List UInt8} {b : Nat} : ∀ xs : List α, (∀ x ∈ xs, (f x).length ≤ b) → (xs.flatMap f).length ≤ b * xs.length
  | [], _ => by simp
  | x :: xs, h => by
    have h1 := h x (by simp)
    have h2 := flat_few xs (fun y hy => h y (by simp [hy]))
    rw [List.flatMap_cons, List.length_append, List.length_cons, Nat.mul_add]
    omega
theorem nameS_few (main : Bool) (k : Nat) : (nameS main k).size ≤ 4 := by
  unfold nameS
  split
  · decide
  · exact (show 2 ≤ 4 by decide)
theorem mendName_few (len n : Nat) (main : Bool) (x : Int) : (mendName len n main x).size ≤ 4 := by
  unfold mendName
  split
  · decide
  · split
    · decide
    · exact (show 2 ≤ 4 by decide)
theorem secB_few (raw : List (List Int)) (n : Nat) (main : Bool) (i : Nat) : (secB (secOf raw n main i)).length ≤ 500 := by
  unfold secB secOf
  simp only []
  generalize hc : codeOf (raw.getD i []) 8 4 = c
  have hcl : c.length ≤ 9 := by rw [← hc, codeOf_len]; unfold codeMany; omega
  have h1 := textB_few (nameS main i)
  have h2 := nameS_few main i
  have h3 := textB_few (strL (codeB (c.map ownM)))
  have h4 := codeB_len_ (c.map ownM)
  rw [strL_size] at h3
  rw [List.length_map] at h4
  have h5 := numB_len (mendsAt (mendName raw.length n main) 0 c).length
  have h6 : (mendsAt (mendName raw.length n main) 0 c).length ≤ c.length := by rw [mendsAt_len]; exact List.length_filter_le _ _
  have h7 := flat_few (f := mendB) (b := 24) (mendsAt (mendName raw.length n main) 0 c) (fun m hm => by
    obtain ⟨j, _, e, _⟩ := mendsAt_mem _ _ _ _ hm
    have a1 := numB_len m.at_.toNat
    have a2 := textB_few m.name
    have a3 : m.name.size ≤ 4 := by rw [e]; exact mendName_few _ _ _ _
    unfold mendB
    rw [List.length_append]
    omega)
  unfold mendsB
  simp only [List.length_append]
  omega
end Go.Proofs.YtcakodemngchpaaGreatDoor

/- The objects that the link's and the bundle's laws make of raw numbers, plainly. -/
namespace Go.Proofs.YtcakodemngchpaaGreatDoor
open Go.RowKit
set_option linter.unusedSimpArgs false
set_option linter.unusedVariables false

def bunL (o : Object) (n : Nat) : List Object := (List.range n).map fun k => segO o k (k + 1)
theorem bunL_len (o : Object) (n : Nat) : (bunL o n).length = n := by unfold bunL; simp
theorem bunL_get {o : Object} {n k : Nat} {x : Object} (h : (bunL o n)[k]? = some x) : k < n ∧ x = segO o k (k + 1) := by
  obtain ⟨hk, e⟩ := List.getElem?_eq_some_iff.1 h
  rw [bunL_len] at hk
  refine ⟨hk, ?_⟩
  rw [← e]
  simp [bunL]
theorem bunL_at {o : Object} {n k : Nat} (h : k < n) : (bunL o n)[k]? = some (segO o k (k + 1)) := by
  unfold bunL
  rw [List.getElem?_map, List.getElem?_range h]
  rfl
theorem bunL_snoc (o : Object) (n : Nat) : bunL o (n + 1) = bunL o n ++ [segO o n (n + 1)] := by
  unfold bunL
  rw [List.range_succ, List.map_append]
  rfl
theorem bunL_take (o : Object) : ∀ {i n : Nat}, i ≤ n → (bunL o n).take i = bunL o i := fun {i n} h => by
  unfold bunL
  rw [← List.map_take, List.take_range, Nat.min_eq_left h]
theorem seg_one {o : Object} {k : Nat} {s : Section} (h : o.sections[k]? = some s) : (segO o k (k + 1)).sections = [s] := by
  obtain ⟨hk, e⟩ := List.getElem?_eq_some_iff.1 h
  unfold segO
  simp only []
  rw [List.take_succ_eq_append_getElem hk, e, List.drop_left' (by rw [List.length_take]; omega)]
theorem bunL_all {o : Object} : ∀ (i : Nat), i ≤ o.sections.length → allS (bunL o i) = o.sections.take i
  | 0, _ => rfl
  | i + 1, h => by
    have ih := bunL_all (o := o) i (by omega)
    have hs : o.sections[i]? = some o.sections[i] := List.getElem?_eq_getElem (by omega)
    rw [bunL_snoc, List.take_succ_eq_append_getElem (by omega), ← ih]
    unfold allS
    rw [List.flatMap_append, List.flatMap_cons, List.flatMap_nil, List.append_nil, seg_one hs]
theorem bunL_wide {o : Object} (h : Wide o) (n : Nat) : ∀ x ∈ bunL o n, Wide x := fun x hx => by
  obtain ⟨k, hk, e⟩ := List.mem_iff_getElem.1 hx
  obtain ⟨_, rfl⟩ := bunL_get (show (bunL o n)[k]? = some x by rw [List.getElem?_eq_getElem hk, e])
  exact h
theorem bunL_owner {o : Object} (h : ObjOk o) {k : Nat} {s : Section} (hs : o.sections[k]? = some s) : ownerL (bunL o o.sections.length) s.name = (k : Int) := by
  obtain ⟨hk, e⟩ := List.getElem?_eq_some_iff.1 hs
  refine owner_some (bunL_at hk) (by rw [seg_one hs]; simp [hasS]) fun j y hj hy => ?_
  obtain ⟨hjn, rfl⟩ := bunL_get hy
  have hsj : o.sections[j]? = some o.sections[j] := List.getElem?_eq_getElem hjn
  rw [seg_one hsj]
  have h1 := (h.secs k s hs).noS
  cases hh : hasS [o.sections[j]] s.name with
  | false => rfl
  | true =>
    obtain ⟨x, hx, hn⟩ := hasS_true.1 hh
    have hx' : x = o.sections[j] := by simpa using hx
    subst hx'
    have : hasS (o.sections.take k) s.name = true := hasS_true.2 ⟨_, List.mem_iff_getElem.2 ⟨j, by rw [List.length_take]; omega, by rw [List.getElem_take]⟩, hn⟩
    rw [h1] at this
    cases this

def kitL (raw : List (List Int)) : List Object := bunL (objOf raw 6 true) (objOf raw 6 true).sections.length
theorem kit_secs (raw : List (List Int)) : (objOf raw 6 true).sections.length ≤ 6 := by rw [objOf_len]; omega
end Go.Proofs.YtcakodemngchpaaGreatDoor
