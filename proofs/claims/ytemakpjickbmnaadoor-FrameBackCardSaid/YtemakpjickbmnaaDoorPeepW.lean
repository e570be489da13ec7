/- PeepMeans, plainly: the runs of one routine's image, ahead of peep and behind it. -/
import Derived.Test.YtemakpjickbmnaaDoorPeepPl
import Derived.Test.YtemakpjickbmnaaDoorMachD
import Derived.Test.YtemakpjickbmnaaDoorLawI
import Derived.Test.YtemakpjickbmnaaDoorKitPm
import Derived.Test.YtemakpjickbmnaaDoorPkA
namespace Go.Proofs.YtemakpjickbmnaaDoor
open Go.RowKit
set_option linter.unusedSimpArgs false
set_option linter.unusedVariables false

theorem true_of {m : Mac} {len : Nat} (h : macF m len = 0) (hn : N64 m.n) : TrueMac m := by
  have ho := macF_ok h
  have hk : known m.op = true := by have := ho.op1; have := ho.op47; simp [known]; omega
  unfold macF at h
  rw [if_neg (by rw [hk]; simp)] at h
  simp only [] at h
  split at h
  · omega
  rename_i h3
  split at h
  · omega
  rename_i h5
  simp only [not_or] at h3 h5
  obtain ⟨d5, a5, b5, n5⟩ := h5
  refine ⟨⟨hk, fun x hx => ?_, ⟨hn.1, by have := hn.2; omega⟩⟩, fun e => ?_, fun e => ?_, fun e => ?_, fun e => ?_⟩
  · have h1 := ho.dst0
    have h2 := ho.dst1
    have h3 := ho.a0
    have h4 := ho.a1
    have h5 := ho.b0
    have h6 := ho.b1
    unfold regsOf at hx
    rcases List.mem_append.1 hx with hx | hx
    · rcases List.mem_append.1 hx with hx | hx
      · split at hx
        · rw [List.mem_singleton.1 hx]; exact ⟨h1, h2⟩
        · cases hx
      · split at hx
        · rw [List.mem_singleton.1 hx]; exact ⟨h3, h4⟩
        · cases hx
    · split at hx
      · rw [List.mem_singleton.1 hx]; exact ⟨h5, h6⟩
      · cases hx
  · unfold fieldF at d5
    rw [e] at d5
    simpa using d5
  · unfold fieldF at a5
    rw [e] at a5
    simpa using a5
  · unfold fieldF at b5
    rw [e] at b5
    simpa using b5
  · unfold numberF at n5
    rw [e] at n5
    simpa using n5
theorem lone_read {l : List Mac} (h : Lone l) : readL (codeB l) = some l := by
  have h1 := codeB_len_ l
  have h2 := h.ok.few
  exact readL_of (fun m hm => true_of (h.ok.fine m hm) (h.nums m hm)) (macsOk_iff.2 h.ok) (by omega)
def aloneI (l : List Mac) : Image := ⟨kitGlobals_, [⟨mainB, codeB l⟩]⟩
theorem alone_img {l : List Mac} (h : Lone l) : ImgOk (aloneI l) where
  glob := kit_glob
  some_ := by simp [aloneI]
  few := by simp [aloneI]
  each := fun k r hr => by
    cases k with
    | zero =>
      have e : r = ⟨mainB, codeB l⟩ := by simpa [aloneI] using hr.symm
      subst e
      refine ⟨by show goodName mainB = true; decide +kernel, fun _ => rfl, by show hasG kitGlobals_ mainB = false; decide +kernel, fun j x hj => by omega, l, lone_read h, ?_⟩
      intro x hx ho
      exact absurd ho (h.none x hx)
    | succ k => simp [aloneI] at hr
theorem alone_codes {l : List Mac} (h : Lone l) : codesI (aloneI l) = [l] := by
  show [(readL (codeB l)).getD []] = [l]
  rw [lone_read h]
  rfl
theorem Lone.fine1 {l : List Mac} (h : Lone l) : Fine1 l := ⟨⟨h.ok.some_, h.ok.few, h.ok.fine, fun m hm e => absurd e (h.none m hm), h.ok.last⟩, h.none⟩
theorem code_lone {l : List Int} (hl : ∀ x ∈ l, I64 x) (n : Nat) (hn : n ≤ 1000) : Lone (codeOf l n 0) where
  ok := macsOk_iff.1 (code_fault hn)
  none := fun m hm e => by have := codeOf_call m hm e; omega
  nums := fun m hm => by have := (codeOf_true hl hn (by omega) m hm).num; unfold I64 at this; omega
theorem begin_one (mem inp : List Int) : oneM (beginM mem inp) 0 frame0 := ⟨rfl, rfl, rfl, rfl⟩
theorem begin_ok (mem inp : List Int) : CfgOk (cfgM (beginM mem inp) frame0) := ⟨by simp [cfgM, beginM], by simp [cfgM, frame0]⟩
theorem begin_in {mem inp : List Int} (hm : ∀ x ∈ mem, N64 x) (hi : ∀ x ∈ inp, N64 x) : CfgIn (cfgM (beginM mem inp) frame0) where
  regs := fun x hx => by
    have : x = 0 := by simp [cfgM, beginM] at hx; exact hx
    subst this; exact n64_0
  fr := fun x hx => by
    have : x = 0 := by simp [cfgM, frame0] at hx; exact hx
    subst this; exact n64_0
  mem := hm
  inp := hi
theorem memI_kit : ∀ x ∈ memI kitGlobals_, N64 x := by
  have e : memI kitGlobals_ = [5, 0, 0] := by decide +kernel
  rw [e]
  intro x hx
  simp at hx
  rcases hx with rfl | rfl <;> exact ⟨by decide, by decide⟩
/-- A run that ends comes to the same behind peep, in as few steps. -/
theorem peep_runs {l : List Mac} (h : Lone l) {inp : List Int} (hi : ∀ x ∈ inp, N64 x) (n : Nat) (hst : (runO (aloneI l) inp n).st ≠ 1) :
    (runO (aloneI (peepL l)) inp n).st = (runO (aloneI l) inp n).st ∧ (runO (aloneI (peepL l)) inp n).val = (runO (aloneI l) inp n).val ∧ (runO (aloneI (peepL l)) inp n).out = (runO (aloneI l) inp n).out ∧ (runO (aloneI (peepL l)) inp n).steps ≤ (runO (aloneI l) inp n).steps := by
  obtain ⟨hl2, hm⟩ := peep_means (msr l) h (Nat.le_refl _)
  have e1 : runO (aloneI l) inp n = outM (runM [l] n (beginM (memI kitGlobals_) inp)) := by unfold runO; rw [alone_codes h]; rfl
  have e2 : runO (aloneI (peepL l)) inp n = outM (runM [peepL l] n (beginM (memI kitGlobals_) inp)) := by unfold runO; rw [alone_codes hl2]; rfl
  rw [e1] at hst
  rw [e1, e2]
  clear e1 e2
  cases ho : (runM [l] n (beginM (memI kitGlobals_) inp)).over with
  | false => exact absurd (by unfold outM; rw [ho]; rfl) hst
  | true =>
    obtain ⟨k, hk, hE, hs⟩ := run_ends h.fine1 n _ 0 frame0 (begin_one _ _) h.ok.some_ ho
    obtain ⟨k', hk', hE'⟩ := hm k _ _ (begin_ok _ _) (begin_in memI_kit hi) hE
    obtain ⟨f1, f2, f3⟩ := ends_run hl2.fine1 hE' _ frame0 n (begin_one _ _) rfl hl2.ok.some_ (by omega)
    injection f2 with f4 f5
    injection f5 with f5 f6
    unfold outM
    rw [ho, f1]
    refine ⟨by simpa using f4, f5, f6, ?_⟩
    show (runM [peepL l] n _).steps ≤ (runM [l] n _).steps
    rw [f3, hs]
    omega
end Go.Proofs.YtemakpjickbmnaaDoor
