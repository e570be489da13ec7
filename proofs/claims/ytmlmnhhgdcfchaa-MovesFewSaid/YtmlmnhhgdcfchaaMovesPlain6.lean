/- Rings of moves, plainly: a row has one move more for each. -/
import Derived.Test.YtmlmnhhgdcfchaaMovesPlain5
namespace Go.Proofs.Ytmlmnhhgdcfchaa
set_option linter.unusedSimpArgs false
set_option linter.unusedVariables false

theorem inj_of_nodup {α β : Type} {f : α → β} : ∀ {l : List α}, (l.map f).Nodup → ∀ {x y : α}, x ∈ l → y ∈ l → f x = f y → x = y
  | [], _, _, _, hx, _, _ => by cases hx
  | a :: l, hn, x, y, hx, hy, e => by
    rw [List.map_cons, List.nodup_cons] at hn
    rcases List.mem_cons.1 hx with rfl | hx' <;> rcases List.mem_cons.1 hy with rfl | hy'
    · rfl
    · exact absurd (List.mem_map.2 ⟨y, hy', e.symm⟩) hn.1
    · exact absurd (List.mem_map.2 ⟨x, hx', e⟩) hn.1
    · exact inj_of_nodup hn.2 hx' hy' e
theorem filter_split {α : Type} (p q : α → Bool) : ∀ (l : List α), (∀ m ∈ l, q m = true → p m = true) → (l.filter p).length = (l.filter q).length + (l.filter (fun m => p m && !q m)).length
  | [], _ => rfl
  | a :: l, h => by
    have ih := filter_split p q l (fun m hm => h m (by simp [hm]))
    have ha := h a (by simp)
    rw [List.filter_cons, List.filter_cons, List.filter_cons]
    cases hp : p a <;> cases hq : q a <;> simp [hp, hq] at ha ⊢ <;> omega
theorem nodup_of_map {α β : Type} (f : α → β) : ∀ {l : List α}, (l.map f).Nodup → l.Nodup
  | [], _ => List.nodup_nil
  | a :: l, h => by
    rw [List.map_cons, List.nodup_cons] at h
    exact List.nodup_cons.2 ⟨fun ha => h.1 (List.mem_map.2 ⟨a, ha, rfl⟩), nodup_of_map f h.2⟩
theorem filter_one {α : Type} {r : α → Bool} {l : List α} (hn : l.Nodup) {m0 : α} (hm : m0 ∈ l) (h0 : r m0 = true) (h : ∀ m ∈ l, r m = true → m = m0) : (l.filter r).length = 1 := by
  have h1 : (l.filter r).Nodup := List.filter_sublist.nodup hn
  have h2 : m0 ∈ l.filter r := List.mem_filter.2 ⟨hm, h0⟩
  have h3 : ∀ m ∈ l.filter r, m = m0 := fun m hm => h m (List.mem_filter.1 hm).1 (List.mem_filter.1 hm).2
  generalize l.filter r = k at *
  match k, h1, h2, h3 with
  | [], _, h2, _ => cases h2
  | [x], _, _, _ => rfl
  | x :: y :: k, h1, _, h3 =>
    have e1 := h3 x (by simp)
    have e2 := h3 y (by simp)
    rw [List.nodup_cons] at h1
    exact absurd (by rw [e1, e2]; simp) h1.1

section
variable {f : Int → Option Int} {s spare : Int}
def opened (f : Int → Option Int) (s spare : Int) (a : Int) : Option Int := (f a).map (fun b => if b = s then spare else b)
theorem opened_dead (hd : f spare = none) {t : Int} (ht : t ≠ spare) {n : Nat} (h : Way (opened f s spare) t spare n) : False := by
  rcases h.inv with ⟨h, _⟩ | ⟨b, m, _, _, e, _⟩
  · exact ht h.symm
  · rw [opened, hd] at e; cases e
theorem opened_way (hd : f spare = none) {t : Int} (ht : t ≠ spare) : ∀ {a : Int} {n : Nat}, Way (opened f s spare) t a n → Way f t a n
  | _, _, .here => .here
  | a, _, .step h e hw => by
    unfold opened at e
    rw [Option.map_eq_some_iff] at e
    obtain ⟨b, e, e2⟩ := e
    by_cases hb : b = s
    · rw [if_pos hb] at e2
      subst e2
      exact (opened_dead hd ht hw).elim
    · rw [if_neg hb] at e2
      subst e2
      exact .step h e (opened_way hd ht hw)
theorem way_opened {t : Int} : ∀ {a : Int} {n : Nat}, Way f t a n → Way (opened f s spare) t a n ∨ ∃ j, Way f t s j
  | _, _, .here => .inl .here
  | a, _, .step (b := b) h e hw => by
    by_cases hb : b = s
    · subst hb; exact .inr ⟨_, hw⟩
    rcases way_opened hw with h1 | h1
    · exact .inl (.step h (by rw [opened, e]; simp [hb]) h1)
    · exact .inr h1
theorem opened_seg (hd : f spare = none) {t : Int} (ht : t ≠ spare) : ∀ {a : Int} {n : Nat} {xs : List Int}, Way (opened f s spare) t a n → Seg f a xs s → t ∉ xs → xs ≠ [] → False
  | _, _, [], _, _, _, h => h rfl
  | a, n, x :: xs, hw, ⟨e, c, e1, hs⟩, hx, _ => by
    subst e
    rcases hw.inv with ⟨h, _⟩ | ⟨b, m, _, _, e, hw'⟩
    · exact hx (by simp [h])
    · rw [opened, e1] at e
      have e : (if c = s then spare else c) = b := Option.some.inj e
      by_cases hc : c = s
      · rw [if_pos hc] at e
        subst e
        exact opened_dead hd ht hw'
      · rw [if_neg hc] at e
        subst e
        refine opened_seg hd ht hw' hs (fun h => hx (by simp [h])) (fun h => ?_)
        subst h
        exact hc hs
end

theorem cnt_respare {spare : Int} {l : List Move} (hf : Fine spare l) (hnone : l.findIdx? (freeIn l) = none) (hl : l ≠ []) : cnt l = cnt (respare spare (l.getD 0 Move.zero).src l) + 1 := by
  have hr := all_round hf hnone
  have hs : ∃ o ∈ l, o.to = (l.getD 0 Move.zero).src := by
    obtain ⟨m0, t, rfl⟩ := List.exists_cons_of_ne_nil hl
    exact hr m0 (by simp)
  generalize (l.getD 0 Move.zero).src = s at *
  have hd : fromOf l spare = none := by
    rw [fromOf, List.find?_eq_none.2 (fun m hm => by simpa using hf.2 m hm)]; rfl
  have hT : ∀ a ∈ l.map Move.to, ∃ b ∈ l.map Move.to, fromOf l a = some b := by
    intro a ha
    obtain ⟨m, hm, rfl⟩ := List.mem_map.1 ha
    obtain ⟨o, ho, e⟩ := hr m hm
    exact ⟨m.src, List.mem_map.2 ⟨o, ho, e⟩, fromOf_of hf.1 hm⟩
  have hsrc : (l.map Move.src).Nodup := by
    rw [List.findIdx?_eq_none_iff] at hnone
    refine (perm_of_nodup (l.map Move.to) (l.map Move.src) hf.1 (fun x hx => ?_) (by simp)).nodup_iff.1 hf.1
    obtain ⟨m, hm, rfl⟩ := List.mem_map.1 hx
    have := hnone m hm
    simp only [freeIn, Bool.not_eq_false', List.any_eq_true, beq_iff_eq] at this
    obtain ⟨o, ho, e⟩ := this
    exact List.mem_map.2 ⟨o, ho, e⟩
  have hinj : ∀ a ∈ l.map Move.to, ∀ b ∈ l.map Move.to, fromOf l a = fromOf l b → a = b := by
    intro a ha b hb e
    obtain ⟨m, hm, rfl⟩ := List.mem_map.1 ha
    obtain ⟨o, ho, rfl⟩ := List.mem_map.1 hb
    rw [fromOf_of hf.1 hm, fromOf_of hf.1 ho] at e
    rw [inj_of_nodup hsrc hm ho (Option.some.inj e)]
  have hsT : s ∈ l.map Move.to := by
    obtain ⟨o, ho, e⟩ := hs
    exact List.mem_map.2 ⟨o, ho, e⟩
  have hfo : fromOf (respare spare s l) = opened (fromOf l) s spare := by funext a; exact fromOf_respare spare s l a
  have hq : ∀ m ∈ l, (ringB (respare spare s l) (if m.src = s then ⟨m.to, spare⟩ else m) = true ↔ m.src ≠ s ∧ ∃ k, Way (opened (fromOf l) s spare) m.to m.src k) := by
    intro m hm
    rw [ringB_iff, hfo]
    by_cases h : m.src = s
    · rw [if_pos h]
      constructor
      · rintro ⟨k, hk⟩; exact (opened_dead hd (hf.2 m hm) hk).elim
      · rintro ⟨h', _⟩; exact absurd h h'
    · rw [if_neg h]
      exact ⟨fun h' => ⟨h, h'⟩, fun h' => h'.2⟩
  have hlen : cnt (respare spare s l) = (l.filter (fun m => ringB (respare spare s l) (if m.src = s then ⟨m.to, spare⟩ else m))).length := by
    unfold cnt
    generalize ringB (respare spare s l) = P
    unfold respare
    rw [List.filter_map, List.length_map]
    rfl
  rw [hlen]
  unfold cnt
  rw [filter_split (ringB l) (fun m => ringB (respare spare s l) (if m.src = s then ⟨m.to, spare⟩ else m)) l (fun m hm h => by
    obtain ⟨_, k, hk⟩ := (hq m hm).1 h
    exact ringB_iff.2 ⟨k, opened_way hd (hf.2 m hm) hk⟩)]
  congr 1
  have hon : ∀ m ∈ l, (ringB l m && !ringB (respare spare s l) (if m.src = s then ⟨m.to, spare⟩ else m)) = true → (∃ k, Way (fromOf l) m.to m.src k) ∧ ∃ j, Way (fromOf l) m.to s j := by
    intro m hm h
    rw [Bool.and_eq_true, Bool.not_eq_true'] at h
    obtain ⟨k, hk⟩ := ringB_iff.1 h.1
    refine ⟨⟨k, hk⟩, ?_⟩
    by_cases hms : m.src = s
    · exact ⟨k, hms ▸ hk⟩
    · rcases way_opened (s := s) (spare := spare) hk with h1 | h1
      · have := (hq m hm).2 ⟨hms, k, h1⟩
        rw [this] at h
        cases h.2
      · exact h1
  obtain ⟨c, hc, hcn, hseg⟩ := ring_at hT hinj hsT
  obtain ⟨pre, t, post, rfl, hlt⟩ := least_of c hc hcn
  obtain ⟨b, h1, e, u, hu, h2⟩ := Seg.split pre (t :: post) hseg
  subst e
  obtain ⟨m0, hm0, hto, hsr⟩ := fromOf_mem hu
  have hway := (h2.append h1).way (fun x hx => hlt x (by rw [List.mem_append] at hx ⊢; exact hx.symm))
  refine filter_one (nodup_of_map _ hf.1) hm0 ?_ (fun m hm h => ?_)
  · rw [Bool.and_eq_true, Bool.not_eq_true', Bool.eq_false_iff]
    refine ⟨ringB_iff.2 ⟨_, by rw [hto, hsr]; exact hway⟩, fun h => ?_⟩
    obtain ⟨h3, k, hk⟩ := (hq m0 hm0).1 h
    rw [hto, hsr] at hk
    refine opened_seg hd (by rw [← hto]; exact hf.2 m0 hm0) hk h2 (fun h => ?_) (fun h => ?_)
    · rw [List.nodup_append] at hcn
      exact (List.nodup_cons.1 hcn.2.1).1 h
    · subst h
      rw [hsr] at h3
      exact h3 h2
  · obtain ⟨⟨k, hk⟩, j, hj⟩ := hon m hm h
    have h0 : ∃ j, Way (fromOf l) m0.to s j := by
      obtain ⟨j, hj⟩ : ∃ j, Way (fromOf l) b s j := ⟨_, h1.way fun x hx => hlt x (by simp [hx])⟩
      exact ⟨j, by rw [hto]; exact hj⟩
    obtain ⟨j0, hj0⟩ := h0
    have := one_ring (fromOf_of hf.1 hm) (fromOf_of hf.1 hm0) hk (by rw [hto, hsr]; exact hway) hj hj0
    exact inj_of_nodup hf.1 hm hm0 this

theorem row_cnt {spare : Int} : ∀ (n : Nat) (l : List Move), Fine spare l → mu l ≤ n + 1 → (rowN spare n l).length = l.length + cnt l ∧ ((rowN spare n l).filter (fun m => m.to == spare)).length = cnt l
  | 0, l, _, h => by
    have : l = [] := List.eq_nil_of_length_eq_zero (by unfold mu at h; omega)
    subst this
    exact ⟨rfl, rfl⟩
  | n + 1, l, hf, h => by
    by_cases hl : l = []
    · subst hl
      rw [rowN_nil]
      exact ⟨rfl, rfl⟩
    cases hi : l.findIdx? (freeIn l) with
    | some i =>
      obtain ⟨h1, h2, h3, h4⟩ := mu_some hi
      obtain ⟨e1, e2⟩ := row_cnt n (l.eraseIdx i) (fine_erase hf) (by omega)
      rw [getD_eq h2] at h3
      have hfree : ∀ o ∈ l, o.src ≠ (l[i]).to := by simpa [freeIn] using h3
      rw [cnt_erase h2 hf.1 hfree] at e1 e2
      have hne : ((l.getD i Move.zero).to == spare) = false := by
        have := hf.2 _ h4
        simpa using this
      rw [rowN_some hi, List.filter_cons, hne, if_neg (by simp), List.length_cons, e1, List.length_eraseIdx, if_pos h2]
      exact ⟨by omega, e2⟩
    | none =>
      have h1 := mu_none hf hi hl
      obtain ⟨e1, e2⟩ := row_cnt n (respare spare (l.getD 0 Move.zero).src l) (fine_respare hf) (by omega)
      have hc := cnt_respare hf hi hl
      rw [rowN_none hi hl, List.filter_cons, if_pos (by simp), List.length_cons, List.length_cons, e1, e2, respare_length]
      omega

theorem few_all {l : List Move} (h : Ten l) : (row 10 l).length = (movers l).length + ringsL l ∧ ((row 10 l).filter (fun m => m.to == 10)).length = ringsL l := by
  rw [rings_movers h.1]
  exact row_cnt _ _ (fine_movers (ten_fine h)) (by omega)
end Go.Proofs.Ytmlmnhhgdcfchaa
