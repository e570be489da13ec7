/- Rings of moves, plainly: a row has one move more for each. -/
import Derived.Test.YtmlmnhhgdcfchaaMovesPlain3
namespace Go.Proofs.Ytmlmnhhgdcfchaa
set_option linter.unusedSimpArgs false
set_option linter.unusedVariables false

/-- From a place on, through places above t, to t, in so many steps. -/
inductive Way (f : Int → Option Int) (t : Int) : Int → Nat → Prop
  | here : Way f t t 0
  | step {a b : Int} {n : Nat} : t < a → f a = some b → Way f t b n → Way f t a (n + 1)

theorem Way.uniq {f : Int → Option Int} {t : Int} : ∀ {a : Int} {n m : Nat}, Way f t a n → Way f t a m → n = m
  | _, _, _, .here, .here => rfl
  | _, _, _, .here, .step h _ _ => by omega
  | _, _, _, .step h _ _, .here => by omega
  | _, _, _, .step _ e h, .step _ e' h' => by
    obtain rfl := Option.some.inj (e.symm.trans e')
    rw [h.uniq h']

def ringOk (f : Int → Option Int) (t : Int) : Nat → Int → Bool
  | 0, a => a == t
  | n + 1, a => if a = t then true else if a < t then false else match f a with | none => false | some b => ringOk f t n b
theorem ringOk_iff (f : Int → Option Int) (t : Int) : ∀ (n : Nat) (a : Int), ringOk f t n a = true ↔ ∃ k, k ≤ n ∧ Way f t a k
  | 0, a => by
    simp only [ringOk, beq_iff_eq]
    constructor
    · rintro rfl; exact ⟨0, Nat.le_refl _, .here⟩
    · rintro ⟨k, hk, h⟩
      obtain rfl : k = 0 := by omega
      cases h; rfl
  | n + 1, a => by
    unfold ringOk
    by_cases h1 : a = t
    · subst h1; simp only [if_pos]; exact ⟨fun _ => ⟨0, by omega, .here⟩, fun _ => trivial⟩
    rw [if_neg h1]
    by_cases h2 : a < t
    · rw [if_pos h2]
      constructor
      · intro h; cases h
      · rintro ⟨k, hk, h⟩
        cases h
        · exact absurd rfl h1
        · omega
    rw [if_neg h2]
    cases e : f a with
    | none =>
      constructor
      · intro h; cases h
      · rintro ⟨k, hk, h⟩
        cases h with
        | here => exact absurd rfl h1
        | step _ e' _ => rw [e] at e'; cases e'
    | some b =>
      show ringOk f t n b = true ↔ _
      rw [ringOk_iff f t n b]
      constructor
      · rintro ⟨k, hk, h⟩; exact ⟨k + 1, by omega, .step (by omega) e h⟩
      · rintro ⟨k, hk, h⟩
        cases h with
        | here => exact absurd rfl h1
        | step _ e' h' =>
          rw [e] at e'
          obtain rfl := Option.some.inj e'
          exact ⟨_, by omega, h'⟩

theorem perm_of_nodup {α : Type} [DecidableEq α] : ∀ (xs ys : List α), xs.Nodup → (∀ x ∈ xs, x ∈ ys) → ys.length ≤ xs.length → xs.Perm ys
  | [], ys, _, _, hl => by
    have : ys = [] := List.eq_nil_of_length_eq_zero (by simpa using hl)
    subst this; exact List.Perm.refl _
  | x :: xs, ys, hn, hs, hl => by
    rw [List.nodup_cons] at hn
    have hx : x ∈ ys := hs x (by simp)
    have hlen : (ys.erase x).length = ys.length - 1 := List.length_erase_of_mem hx
    have := perm_of_nodup xs (ys.erase x) hn.2 (fun z hz => by
      rw [List.mem_erase_of_ne (by rintro rfl; exact hn.1 hz)]
      exact hs z (by simp [hz])) (by simp at hl; omega)
    exact (this.cons x).trans (List.perm_cons_erase hx).symm
theorem length_of_nodup {α : Type} [DecidableEq α] : ∀ (xs ys : List α), xs.Nodup → (∀ x ∈ xs, x ∈ ys) → xs.length ≤ ys.length
  | [], ys, _, _ => by simp
  | x :: xs, ys, hn, hs => by
    rw [List.nodup_cons] at hn
    have hx : x ∈ ys := hs x (by simp)
    have hlen : (ys.erase x).length = ys.length - 1 := List.length_erase_of_mem hx
    have hpos : 0 < ys.length := List.length_pos_of_mem hx
    have := length_of_nodup xs (ys.erase x) hn.2 (fun z hz => by
      rw [List.mem_erase_of_ne (by rintro rfl; exact hn.1 hz)]
      exact hs z (by simp [hz]))
    simp; omega

/-! ### Whence a place is moved to -/
def fromOf (l : List Move) (a : Int) : Option Int := (l.find? (fun m => m.to == a)).map Move.src
theorem fromOf_mem {l : List Move} {a b : Int} (h : fromOf l a = some b) : ∃ m ∈ l, m.to = a ∧ m.src = b := by
  unfold fromOf at h
  rw [Option.map_eq_some_iff] at h
  obtain ⟨m, hm, e⟩ := h
  exact ⟨m, List.mem_of_find?_eq_some hm, by simpa using List.find?_some hm, e⟩
theorem fromOf_of {l : List Move} (hn : (l.map Move.to).Nodup) {m : Move} (hm : m ∈ l) : fromOf l m.to = some m.src := by
  rw [fromOf, find_to hn hm]; rfl

theorem Way.path {l : List Move} {t : Int} : ∀ {a : Int} {n : Nat}, Way (fromOf l) t a n → ∃ xs : List Int, xs.length = n ∧ xs.Nodup ∧ ∀ x ∈ xs, x ∈ l.map Move.to ∧ ∃ k, 1 ≤ k ∧ k ≤ n ∧ Way (fromOf l) t x k
  | _, _, .here => ⟨[], rfl, List.nodup_nil, by intro x hx; cases hx⟩
  | a, _, .step (n := n) h e hw => by
    obtain ⟨xs, h1, h2, h3⟩ := hw.path
    refine ⟨a :: xs, by simp [h1], List.nodup_cons.2 ⟨fun ha => ?_, h2⟩, fun x hx => ?_⟩
    · obtain ⟨_, k, _, hk, hw'⟩ := h3 a ha
      have := Way.uniq hw' (Way.step h e hw)
      omega
    · rcases List.mem_cons.1 hx with rfl | hx
      · obtain ⟨m, hm, e1, _⟩ := fromOf_mem e
        exact ⟨List.mem_map.2 ⟨m, hm, e1⟩, n + 1, by omega, Nat.le_refl _, .step h e hw⟩
      · obtain ⟨p, k, q, r, s⟩ := h3 x hx
        exact ⟨p, k, q, by omega, s⟩
theorem Way.short {l : List Move} {t a : Int} {n : Nat} (h : Way (fromOf l) t a n) : n ≤ l.length := by
  obtain ⟨xs, h1, h2, h3⟩ := h.path
  have := length_of_nodup xs (l.map Move.to) h2 (fun x hx => (h3 x hx).1)
  simp at this
  omega

def ringB (l : List Move) (m : Move) : Bool := ringOk (fromOf l) m.to l.length m.src
theorem ringB_iff {l : List Move} {m : Move} : ringB l m = true ↔ ∃ k, Way (fromOf l) m.to m.src k := by
  rw [ringB, ringOk_iff]
  exact ⟨fun ⟨k, _, h⟩ => ⟨k, h⟩, fun ⟨k, h⟩ => ⟨k, h.short, h⟩⟩
def cnt (l : List Move) : Nat := (l.filter (ringB l)).length
def ringsL (l : List Move) : Nat := (l.filter fun m => m.to != m.src && ringB l m).length

/-! ### A move to itself is in no other ring -/
theorem movers_nodup {l : List Move} (h : (l.map Move.to).Nodup) : ((movers l).map Move.to).Nodup := (List.filter_sublist.map Move.to).nodup h
theorem Way.movers {l : List Move} (hn : (l.map Move.to).Nodup) {t : Int} : ∀ {a : Int} {k : Nat}, Way (fromOf l) t a k → Way (fromOf (movers l)) t a k
  | _, _, .here => .here
  | a, _, .step (b := b) (n := n) h e hw => by
    obtain ⟨m, hm, rfl, rfl⟩ := fromOf_mem e
    have hne : m.src ≠ m.to := by
      intro he
      rw [he] at hw e
      have := Way.uniq hw (Way.step h e hw)
      omega
    have hmm : m ∈ Go.Proofs.Ytmlmnhhgdcfchaa.movers l := List.mem_filter.2 ⟨hm, by simp; omega⟩
    exact .step h (fromOf_of (movers_nodup hn) hmm) (hw.movers hn)
theorem Way.of_movers {l : List Move} (hn : (l.map Move.to).Nodup) {t : Int} : ∀ {a : Int} {k : Nat}, Way (fromOf (Go.Proofs.Ytmlmnhhgdcfchaa.movers l)) t a k → Way (fromOf l) t a k
  | _, _, .here => .here
  | a, _, .step h e hw => by
    obtain ⟨m, hm, rfl, rfl⟩ := fromOf_mem e
    exact .step h (fromOf_of hn (List.mem_filter.1 hm).1) (hw.of_movers hn)
theorem rings_movers {l : List Move} (hn : (l.map Move.to).Nodup) : ringsL l = cnt (movers l) := by
  unfold ringsL cnt
  have : l.filter (fun m => m.to != m.src && ringB l m) = (movers l).filter (ringB (movers l)) := by
    unfold movers
    rw [List.filter_filter]
    apply List.filter_congr
    intro m hm
    rw [Bool.and_comm, bne]
    congr 1
    rw [Bool.eq_iff_iff, ringB_iff, ringB_iff]
    exact ⟨fun ⟨k, h⟩ => ⟨k, h.movers hn⟩, fun ⟨k, h⟩ => ⟨k, Way.of_movers hn h⟩⟩
  rw [this]
end Go.Proofs.Ytmlmnhhgdcfchaa
