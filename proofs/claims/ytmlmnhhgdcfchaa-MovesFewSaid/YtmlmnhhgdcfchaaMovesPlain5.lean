/- Rings of moves, plainly: a row has one move more for each. -/
import Derived.Test.YtmlmnhhgdcfchaaMovesPlain4
namespace Go.Proofs.Ytmlmnhhgdcfchaa
set_option linter.unusedSimpArgs false
set_option linter.unusedVariables false

/-! ### A free move is in no ring -/
theorem getD_eq {i : Nat} {l : List Move} (h : i < l.length) : l.getD i Move.zero = l[i] := by rw [List.getD_eq_getElem?_getD, List.getElem?_eq_getElem h]; rfl
theorem Way.erase {l : List Move} {i : Nat} (hi : i < l.length) (hn : (l.map Move.to).Nodup) (hfree : ∀ o ∈ l, o.src ≠ (l[i]).to) {t : Int} : ∀ {a : Int} {k : Nat}, a ≠ (l[i]).to → Way (fromOf l) t a k → Way (fromOf (l.eraseIdx i)) t a k
  | _, _, _, .here => .here
  | a, _, ha, .step h e hw => by
    obtain ⟨m, hm, rfl, rfl⟩ := fromOf_mem e
    have hm' : m ∈ l.eraseIdx i := by
      rcases List.mem_cons.1 ((erase_perm hi).mem_iff.1 hm) with rfl | hm'
      · exact absurd rfl ha
      · exact hm'
    exact .step h (fromOf_of ((List.eraseIdx_sublist l i).map Move.to |>.nodup hn) hm') (hw.erase hi hn hfree (hfree m hm))
theorem Way.of_sub {l l' : List Move} (hn : (l.map Move.to).Nodup) (hs : ∀ m ∈ l', m ∈ l) {t : Int} : ∀ {a : Int} {k : Nat}, Way (fromOf l') t a k → Way (fromOf l) t a k
  | _, _, .here => .here
  | a, _, .step h e hw => by
    obtain ⟨m, hm, rfl, rfl⟩ := fromOf_mem e
    exact .step h (fromOf_of hn (hs m hm)) (hw.of_sub hn hs)
theorem Way.end_ne {f : Int → Option Int} {c t : Int} (hc : ∀ a b, f a = some b → b ≠ c) : ∀ {a : Int} {k : Nat}, a ≠ c → Way f t a k → t ≠ c
  | _, _, ha, .here => ha
  | a, _, ha, .step h e hw => hw.end_ne hc (hc _ _ e)
theorem cnt_erase {l : List Move} {i : Nat} (hi : i < l.length) (hn : (l.map Move.to).Nodup) (hfree : ∀ o ∈ l, o.src ≠ (l[i]).to) : cnt (l.eraseIdx i) = cnt l := by
  unfold cnt
  rw [((erase_perm hi).filter (ringB l)).length_eq, List.filter_cons]
  have h0 : ringB l l[i] = false := by
    rw [Bool.eq_false_iff]
    intro h
    obtain ⟨k, hk⟩ := ringB_iff.1 h
    exact hk.end_ne (c := (l[i]).to) (fun a b e => by
      obtain ⟨m, hm, _, rfl⟩ := fromOf_mem e
      exact hfree m hm) (hfree _ (List.getElem_mem hi)) rfl
  rw [h0, if_neg (by simp)]
  congr 1
  apply List.filter_congr
  intro m hm
  have hml := List.mem_of_mem_eraseIdx hm
  rw [Bool.eq_iff_iff, ringB_iff, ringB_iff]
  exact ⟨fun ⟨k, h⟩ => ⟨k, h.of_sub hn fun m hm => List.mem_of_mem_eraseIdx hm⟩, fun ⟨k, h⟩ => ⟨k, h.erase hi hn hfree (hfree m hml)⟩⟩

/-! ### Where all goes round: a ring is opened -/
/-- From a on through the places of a list to b. -/
def Seg (f : Int → Option Int) : Int → List Int → Int → Prop
  | a, [], b => a = b
  | a, x :: xs, b => a = x ∧ ∃ c, f a = some c ∧ Seg f c xs b
theorem Seg.append {f : Int → Option Int} : ∀ {a b c : Int} {xs ys : List Int}, Seg f a xs b → Seg f b ys c → Seg f a (xs ++ ys) c
  | _, _, _, [], _, h1, h2 => by obtain rfl := h1; exact h2
  | _, _, _, x :: xs, _, ⟨e, c, h, h1⟩, h2 => ⟨e, c, h, h1.append h2⟩
theorem Seg.split {f : Int → Option Int} : ∀ {a c : Int} (xs ys : List Int), Seg f a (xs ++ ys) c → ∃ b, Seg f a xs b ∧ Seg f b ys c
  | a, _, [], _, h => ⟨a, rfl, h⟩
  | _, _, x :: xs, ys, ⟨e, c, h, h1⟩ => by
    obtain ⟨b, h2, h3⟩ := Seg.split xs ys h1
    exact ⟨b, ⟨e, c, h, h2⟩, h3⟩
theorem Seg.mem {f : Int → Option Int} : ∀ {a b : Int} {xs : List Int}, Seg f a xs b → ∀ x, x ∈ xs ∨ x = b → x = a ∨ ∃ y ∈ xs, f y = some x
  | _, _, [], h, x, hx => by
    obtain rfl := h
    rcases hx with hx | rfl
    · cases hx
    · exact .inl rfl
  | _, b, y :: xs, ⟨rfl, c, e, h1⟩, x, hx => by
    by_cases hxa : x = y
    · exact .inl hxa
    right
    have hx' : x ∈ xs ∨ x = b := by
      rcases hx with hx | hx
      · rcases List.mem_cons.1 hx with rfl | hx
        · exact absurd rfl hxa
        · exact .inl hx
      · exact .inr hx
    rcases h1.mem x hx' with hxc | ⟨z, hz, ez⟩
    · exact ⟨_, by simp, hxc ▸ e⟩
    · exact ⟨z, by simp [hz], ez⟩
theorem Seg.way {f : Int → Option Int} {t : Int} : ∀ {a : Int} {xs : List Int}, Seg f a xs t → (∀ x ∈ xs, t < x) → Way f t a xs.length
  | _, [], h, _ => by obtain rfl := h; exact .here
  | _, x :: xs, ⟨e, c, h, h1⟩, hx => by
    subst e
    exact .step (hx _ (by simp)) h (h1.way fun y hy => hx y (by simp [hy]))

theorem ring_of {f : Int → Option Int} {T : List Int} (hT : ∀ a ∈ T, ∃ b ∈ T, f a = some b) (hinj : ∀ a ∈ T, ∀ b ∈ T, f a = f b → a = b) {s : Int} (hs : s ∈ T) :
    ∀ n : Nat, (∃ c : List Int, c ≠ [] ∧ c.Nodup ∧ Seg f s c s) ∨ ∃ (xs : List Int) (a : Int), xs.length = n ∧ Seg f s xs a ∧ xs.Nodup ∧ (∀ x ∈ xs, x ∈ T) ∧ a ∈ T ∧ a ∉ xs
  | 0 => .inr ⟨[], s, rfl, rfl, List.nodup_nil, (by intro x hx; cases hx), hs, by simp⟩
  | n + 1 => by
    rcases ring_of hT hinj hs n with h | ⟨xs, a, h1, h2, h3, h4, h5, h6⟩
    · exact .inl h
    obtain ⟨b, hb, e⟩ := hT a h5
    have hseg : Seg f s (xs ++ [a]) b := h2.append ⟨rfl, b, e, rfl⟩
    have hnd : (xs ++ [a]).Nodup := by
      rw [List.nodup_append]
      refine ⟨h3, by simp, fun x hx y hy => ?_⟩
      rw [List.mem_singleton] at hy
      subst hy
      rintro rfl
      exact h6 hx
    by_cases hbx : b ∈ xs ++ [a]
    · left
      by_cases hbs : b = s
      · subst hbs
        exact ⟨xs ++ [a], by simp, hnd, hseg⟩
      · have hb' : b ∈ xs ∨ b = a := by simpa using hbx
        rcases h2.mem b hb' with rfl | ⟨y, hy, ey⟩
        · exact absurd rfl hbs
        · have := hinj y (h4 y hy) a h5 (by rw [ey, e])
          subst this
          exact absurd hy h6
    · right
      refine ⟨xs ++ [a], b, by simp [h1], hseg, hnd, fun x hx => ?_, hb, hbx⟩
      rcases List.mem_append.1 hx with hx | hx
      · exact h4 x hx
      · rw [List.mem_singleton] at hx
        subst hx
        exact h5
theorem ring_at {f : Int → Option Int} {T : List Int} (hT : ∀ a ∈ T, ∃ b ∈ T, f a = some b) (hinj : ∀ a ∈ T, ∀ b ∈ T, f a = f b → a = b) {s : Int} (hs : s ∈ T) : ∃ c : List Int, c ≠ [] ∧ c.Nodup ∧ Seg f s c s := by
  rcases ring_of hT hinj hs (T.length + 1) with h | ⟨xs, a, h1, _, h3, h4, _, _⟩
  · exact h
  · have := length_of_nodup xs T h3 h4
    omega

theorem least_of : ∀ (c : List Int), c ≠ [] → c.Nodup → ∃ (pre : List Int) (t : Int) (post : List Int), c = pre ++ t :: post ∧ ∀ x ∈ pre ++ post, t < x
  | [], h, _ => absurd rfl h
  | [x], _, _ => ⟨[], x, [], rfl, by simp⟩
  | x :: y :: c, _, hn => by
    rw [List.nodup_cons] at hn
    obtain ⟨pre, t, post, e, h⟩ := least_of (y :: c) (by simp) hn.2
    by_cases hx : x < t
    · refine ⟨[], x, y :: c, rfl, fun z hz => ?_⟩
      rw [List.nil_append, e] at hz
      rcases List.mem_append.1 hz with hz | hz
      · have := h z (by simp [hz]); omega
      · rcases List.mem_cons.1 hz with rfl | hz
        · exact hx
        · have := h z (by simp [hz]); omega
    · refine ⟨x :: pre, t, post, by rw [e]; rfl, fun z hz => ?_⟩
      rcases List.mem_cons.1 hz with rfl | hz
      · have : z ≠ t := by rintro rfl; exact hn.1 (by rw [e]; simp)
        omega
      · exact h z hz

theorem Way.inv {f : Int → Option Int} {t a : Int} {n : Nat} (h : Way f t a n) : (a = t ∧ n = 0) ∨ ∃ (b : Int) (m : Nat), n = m + 1 ∧ t < a ∧ f a = some b ∧ Way f t b m := by
  cases h with
  | here => exact .inl ⟨rfl, rfl⟩
  | step h e hw => exact .inr ⟨_, _, rfl, h, e, hw⟩
theorem meet {f : Int → Option Int} {t t' : Int} : ∀ (n : Nat) {a : Int} {n' : Nat}, Way f t a n → Way f t' a n' → t = t' ∨ (t < t' ∧ ∃ j, j ≤ n ∧ Way f t t' j) ∨ (t' < t ∧ ∃ j, j ≤ n' ∧ Way f t' t j)
  | n, a, n', h, h' => by
    rcases h.inv with ⟨rfl, rfl⟩ | ⟨b, m, rfl, h1, e, hw⟩
    · rcases h'.inv with ⟨h2, rfl⟩ | ⟨b, m, rfl, h1, e, hw⟩
      · exact .inl h2
      · exact .inr (.inr ⟨h1, _, Nat.le_refl _, h'⟩)
    · rcases h'.inv with ⟨rfl, rfl⟩ | ⟨b', m', rfl, h1', e', hw'⟩
      · exact .inr (.inl ⟨h1, _, Nat.le_refl _, h⟩)
      · obtain rfl := Option.some.inj (e.symm.trans e')
        rcases meet m hw hw' with h | ⟨h, j, hj, hw⟩ | ⟨h, j, hj, hw⟩
        · exact .inl h
        · exact .inr (.inl ⟨h, j, by omega, hw⟩)
        · exact .inr (.inr ⟨h, j, by omega, hw⟩)

theorem one_ring {f : Int → Option Int} {t t' u u' s : Int} {n n' j j' : Nat} (hu : f t = some u) (hu' : f t' = some u') (h : Way f t u n) (h' : Way f t' u' n') (hs : Way f t s j) (hs' : Way f t' s j') : t = t' := by
  have key : ∀ {t t' u' : Int} {n' : Nat}, f t' = some u' → Way f t' u' n' → t < t' → (∃ j, Way f t t' j) → False := by
    intro t t' u' n' hu' h' hlt ⟨j, hj⟩
    rcases hj.inv with ⟨h0, _⟩ | ⟨b, m, rfl, h1, e, hw⟩
    · omega
    · obtain rfl := Option.some.inj (hu'.symm.trans e)
      rcases meet _ hw h' with h | ⟨_, j, hj2, hw2⟩ | ⟨h, _⟩
      · omega
      · have := Way.uniq hw2 hj
        omega
      · omega
  rcases meet _ hs hs' with h1 | ⟨h1, j, _, hw⟩ | ⟨h1, j, _, hw⟩
  · exact h1
  · exact (key hu' h' h1 ⟨j, hw⟩).elim
  · exact (key hu h h1 ⟨j, hw⟩).elim

theorem fromOf_respare (spare s : Int) (l : List Move) (a : Int) : fromOf (respare spare s l) a = (fromOf l a).map (fun b => if b = s then spare else b) := by
  unfold fromOf respare
  rw [List.find?_map]
  have : ((fun m : Move => m.to == a) ∘ fun m => if m.src = s then (⟨m.to, spare⟩ : Move) else m) = fun m => m.to == a := by
    funext m
    simp only [Function.comp]
    split <;> rfl
  rw [this]
  cases l.find? (fun m => m.to == a) with
  | none => rfl
  | some m =>
    simp only [Option.map_some]
    split <;> rfl
end Go.Proofs.Ytmlmnhhgdcfchaa
