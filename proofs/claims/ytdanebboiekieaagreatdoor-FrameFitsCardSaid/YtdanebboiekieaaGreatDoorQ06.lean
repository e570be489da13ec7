/- Live registers of units, plainly: a least solution; sets that grow till nothing changes. Places of registers, plainly: which clash, how often each is named, what each asks for, which place it gets; the frame that they want. Sets of registers by maps: map[int]struct{} of the call's own. A row of rows of ints that are the call's own, each with a block of its own. -/
import Derived.Test.YtdanebboiekieaaGreatDoorQ02
import Derived.Test.YtdanebboiekieaaGreatDoorQ01
import Derived.Test.YtdanebboiekieaaGreatDoorRows
import Derived.IntWalk
import Derived.Maps.OwnSet
import Derived.Maps.Views
import Derived.Maps.RangeWalk
import Derived.WideKeyEntry
import Derived.Test.YtdanebboiekieaaGreatDoorQ03
import Derived.Test.YtdanebboiekieaaGreatDoorQ05
namespace Go.Proofs.YtdanebboiekieaaGreatDoor
open Go.RowKit
set_option linter.unusedSimpArgs false
set_option linter.unusedVariables false

/-- A system of yes and no: V grows by F till F V = V; L is the least. -/
structure SysL {I : Type} (F : (I → Bool) → I → Bool) (L : I → Prop) : Prop where
 mono : ∀ V W : I → Bool, (∀ i, V i = true → W i = true) → ∀ i, F V i = true → F W i = true
 sound : ∀ V : I → Bool, (∀ i, V i = true → L i) → ∀ i, F V i = true → L i
 least : ∀ V : I → Bool, (∀ i, F V i = true → V i = true) → ∀ i, L i → V i = true
structure GoodL {I : Type} (F : (I → Bool) → I → Bool) (L : I → Prop) (V : I → Bool) : Prop where
 sound : ∀ i, V i = true → L i
 grow : ∀ i, V i = true → F V i = true
theorem GoodL.first {I : Type} {F : (I → Bool) → I → Bool} {L : I → Prop} {V : I → Bool} (h : ∀ i, V i = false) : GoodL F L V :=
 ⟨fun i hi => by rw [h i] at hi; (cases hi), fun i hi => by rw [h i] at hi; (cases hi)⟩
theorem GoodL.step {I : Type} [DecidableEq I] {F : (I → Bool) → I → Bool} {L : I → Prop} (hs : SysL F L) {V W : I → Bool} (h : GoodL F L V) {i : I} (hi : W i = F V i) (ho : ∀ j, j ≠ i → W j = V j) : GoodL F L W := by
 have hup : ∀ j, V j = true → W j = true := fun j hj => by
  by_cases e : j = i
  ·subst e
   rw [hi]
   exact h.grow j hj
  ·rw [ho j e]
   exact hj
 refine ⟨fun j hj => ?_, fun j hj => ?_⟩
 ·by_cases e : j = i
  ·subst e
   rw [hi] at hj
   exact hs.sound V h.sound j hj
  ·rw [ho j e] at hj
   exact h.sound j hj
 ·by_cases e : j = i
  ·subst e
   rw [hi] at hj
   exact hs.mono V W hup j hj
  ·rw [ho j e] at hj
   exact hs.mono V W hup j (h.grow j hj)
theorem GoodL.done {I : Type} {F : (I → Bool) → I → Bool} {L : I → Prop} (hs : SysL F L) {V : I → Bool} (h : GoodL F L V) (hc : ∀ i, F V i = true → V i = true) (i : I) : V i = true ↔ L i :=
 ⟨h.sound i, hs.least V hc i⟩

def bAt (S : List Bool) (k : Nat) : Bool := S.getD k false
theorem bAt_get {S : List Bool} {k : Nat} (h : k < S.length) : S[k]? = some (bAt S k) := by
 unfold bAt
 rw [List.getD_eq_getElem?_getD, List.getElem?_eq_getElem h]
 rfl
theorem bAt_set {S : List Bool} {i k : Nat} {x : Bool} (h : i < S.length) : bAt (S.set i x) k = if k = i then x else bAt S k := by
 unfold bAt
 rw [List.getD_eq_getElem?_getD, List.getD_eq_getElem?_getD, List.getElem?_set]
 by_cases e : i = k
 ·subst e
  rw [if_pos rfl, if_pos h, if_pos rfl]
  rfl
 ·rw [if_neg e, if_neg (fun x => e x.symm)]
theorem bAt_rep (n k : Nat) : bAt (List.replicate n false) k = false := by
 unfold bAt
 rw [List.getD_eq_getElem?_getD, List.getElem?_replicate]
 split <;> rfl
theorem bAt_ext {S T : List Bool} (h : S.length = T.length) (he : ∀ k, k < S.length → bAt S k = bAt T k) : S = T := by
 apply List.ext_getElem? 
 intro k
 rcases Nat.lt_or_ge k S.length with hk | hk
 ·rw [bAt_get hk, bAt_get (by omega), he k hk]
 ·rw [List.getElem?_eq_none hk, List.getElem?_eq_none (by omega)]

/-- What an instruction takes. -/
def valsOf (x : UIns) : List UVal := (if opA x.op = true then [x.a] else []) ++ ((if opB x.op = true then [x.b] else []) ++ x.args)
def regIs (v : UVal) (r : Nat) : Bool := v.reg && decide (v.n = (r : Int))
def takesB (x : UIns) (r : Nat) : Bool := regIs x.a r || regIs x.b r || x.args.any fun v => regIs v r
theorem regIs_z {v : UVal} (h : isZ v = true) (r : Nat) : regIs v r = false := by
 unfold isZ at h
 unfold regIs
 cases hv : v.reg
 ·rfl
 ·rw [hv] at h
  simp at h
theorem takes_vals {u : Unt} {regs : Int} {x : UIns} (h : InsOk u regs x) (r : Nat) : ((valsOf x).any fun v => regIs v r) = takesB x r := by
 unfold valsOf takesB
 rw [List.any_append, List.any_append, ← Bool.or_assoc]
 congr 1
 congr 1
 ·cases ha : opA x.op
  ·simp [regIs_z (h.noA ha)]
  ·simp
 ·cases ha : opB x.op
  ·simp [regIs_z (h.noB ha)]
  ·simp
theorem valsOf_ok {u : Unt} {regs : Int} {x : UIns} (h : InsOk u regs x) : ∀ v ∈ valsOf x, ValOk regs v := by
 intro v hv
 unfold valsOf at hv
 rw [List.mem_append, List.mem_append] at hv
 rcases hv with hv | hv | hv
 ·split at hv
  ·simp at hv; subst hv; exact h.a
  ·simp at hv
 ·split at hv
  ·simp at hv; subst hv; exact h.b
  ·simp at hv
 ·exact h.args v hv

/-- Ahead of some instructions, by what is live behind them. -/
def aheadB (l : List UIns) (s : Bool) (r : Nat) : Bool := l.foldr (fun x a => takesB x r || (a && !decide (x.dst = (r : Int)))) s
theorem aheadB_drop {l : List UIns} {k : Nat} {x : UIns} (h : l[k]? = some x) (s : Bool) (r : Nat) : aheadB (l.drop k) s r = (takesB x r || (aheadB (l.drop (k + 1)) s r && !decide (x.dst = (r : Int)))) := by
 obtain ⟨hlt, e⟩ := List.getElem?_eq_some_iff.1 h
 rw [List.drop_eq_getElem_cons hlt, e]
 rfl
theorem aheadB_mono {l : List UIns} {r : Nat} {s t : Bool} (h : s = true → t = true) : aheadB l s r = true → aheadB l t r = true := by
 induction l with
 | nil => exact h
 | cons x l ih =>
   simp only [aheadB, List.foldr_cons, Bool.or_eq_true, Bool.and_eq_true]
   rintro (h1 | ⟨h1, h2⟩)
   ·exact .inl h1
   ·exact .inr ⟨ih h1, h2⟩
/-- A register is live ahead of a place (behind the last: ahead of the end). -/
inductive Lv (f : UFun) (r : Nat) : Nat → Nat → Prop
 | on {i : Nat} {b : UBlk} : f.blocks[i]? = some b → regIs b.end_.on r = true → Lv f r i b.list.length
 | go {i : Nat} {b : UBlk} {t : Int} : f.blocks[i]? = some b → t ∈ b.end_.to → Lv f r t.toNat 0 → Lv f r i b.list.length
 | take {i k : Nat} {b : UBlk} {x : UIns} : f.blocks[i]? = some b → b.list[k]? = some x → takesB x r = true → Lv f r i k
 | pass {i k : Nat} {b : UBlk} {x : UIns} : f.blocks[i]? = some b → b.list[k]? = some x → x.dst ≠ (r : Int) → Lv f r i (k + 1) → Lv f r i k
/-- Behind a block: ahead of where it leads. -/
def Bh (f : UFun) (r i : Nat) : Prop := ∃ b t, f.blocks[i]? = some b ∧ t ∈ b.end_.to ∧ Lv f r t.toNat 0
theorem lv_end {f : UFun} {r i : Nat} {b : UBlk} (hb : f.blocks[i]? = some b) : Lv f r i b.list.length ↔ (regIs b.end_.on r = true ∨ Bh f r i) := by
 constructor
 ·intro h
  generalize hk : b.list.length = k at h
  cases h with
  | on hb' h =>
    rw [hb] at hb'
    injection hb' with e
    subst e
    exact .inl h
  | go hb' h h2 => exact .inr ⟨_, _, hb', h, h2⟩
  | take hb' h _ =>
    rw [hb] at hb'
    injection hb' with e
    subst e
    have := (List.getElem?_eq_some_iff.1 h).1
    omega
  | pass hb' h _ _ =>
    rw [hb] at hb'
    injection hb' with e
    subst e
    have := (List.getElem?_eq_some_iff.1 h).1
    omega
 ·rintro (h | ⟨b', t, hb', ht, h⟩)
  ·exact .on hb h
  ·rw [hb] at hb'
   injection hb' with e
   subst e
   exact .go hb ht h
theorem lv_ins {f : UFun} {r i k : Nat} {b : UBlk} {x : UIns} (hb : f.blocks[i]? = some b) (hx : b.list[k]? = some x) : Lv f r i k ↔ (takesB x r = true ∨ (x.dst ≠ (r : Int) ∧ Lv f r i (k + 1))) := by
 have hlt := (List.getElem?_eq_some_iff.1 hx).1
 constructor
 ·intro h
  cases h with
  | on hb' h =>
    rw [hb] at hb'
    injection hb' with e
    subst e
    omega
  | go hb' h h2 =>
    rw [hb] at hb'
    injection hb' with e
    subst e
    omega
  | take hb' h h2 =>
    rw [hb] at hb'
    injection hb' with e
    subst e
    rw [hx] at h
    injection h with e
    subst e
    exact .inl h2
  | pass hb' h h2 h3 =>
    rw [hb] at hb'
    injection hb' with e
    subst e
    rw [hx] at h
    injection h with e
    subst e
    exact .inr ⟨h2, h3⟩
 ·rintro (h | ⟨h1, h2⟩)
  ·exact .take hb hx h
  ·exact .pass hb hx h1 h2
/-- A whole block, by what is live ahead of its end. -/
theorem lv_block {f : UFun} {r i : Nat} {b : UBlk} (hb : f.blocks[i]? = some b) {s : Bool} (hs : s = true ↔ Lv f r i b.list.length) : ∀ j k, k + j = b.list.length → (aheadB (b.list.drop k) s r = true ↔ Lv f r i k)
 | 0, k, h => by
   have e : k = b.list.length := by omega
   subst e
   rw [List.drop_length]
   exact hs
 | j + 1, k, h => by
   have hk : k < b.list.length := by omega
   have hx : b.list[k]? = some b.list[k] := List.getElem?_eq_getElem hk
   rw [aheadB_drop hx, lv_ins hb hx, Bool.or_eq_true, Bool.and_eq_true, lv_block hb hs j (k + 1) (by omega)]
   simp only [Bool.not_eq_true', decide_eq_false_iff_not, ne_eq]
   constructor
   ·rintro (h | ⟨h1, h2⟩)
    ·exact .inl h
    ·exact .inr ⟨h2, h1⟩
   ·rintro (h | ⟨h1, h2⟩)
    ·exact .inl h
    ·exact .inr ⟨h2, h1⟩
/-- One step of live.AllOf at a block, for one register. -/
def behB (V : Nat → Bool) (b : UBlk) : Bool := b.end_.to.any fun t => V t.toNat
def stepB (f : UFun) (r : Nat) (V : Nat → Bool) (i : Nat) : Bool := match f.blocks[i]? with
 | none => false
 | some b => aheadB b.list (behB V b || regIs b.end_.on r) r
theorem lv_some {f : UFun} {r i k : Nat} (h : Lv f r i k) : ∃ b, f.blocks[i]? = some b := by
 cases h with
 | on h1 _ => exact ⟨_, h1⟩
 | go h1 _ _ => exact ⟨_, h1⟩
 | take h1 _ _ => exact ⟨_, h1⟩
 | pass h1 _ _ _ => exact ⟨_, h1⟩
theorem sys_all (f : UFun) (r : Nat) : SysL (stepB f r) fun i => Lv f r i 0 := by
 have key : ∀ (V : Nat → Bool) (b : UBlk) i, f.blocks[i]? = some b → ((∀ t ∈ b.end_.to, V t.toNat = true → Lv f r t.toNat 0) → ((behB V b || regIs b.end_.on r) = true → Lv f r i b.list.length)) := fun V b i hb hV h => by
  rw [Bool.or_eq_true] at h
  rcases h with h | h
  ·obtain ⟨t, ht, hv⟩ := List.any_eq_true.1 h
   exact .go hb ht (hV t ht hv)
  ·exact .on hb h
 refine ⟨fun V W h i => ?_, fun V h i => ?_, fun V h => ?_⟩
 ·unfold stepB
  split
  ·exact fun h => h
  ·apply aheadB_mono
   simp only [Bool.or_eq_true]
   rintro (h1 | h1)
   ·left
    obtain ⟨t, ht, hv⟩ := List.any_eq_true.1 h1
    exact List.any_eq_true.2 ⟨t, ht, h _ hv⟩
   ·exact .inr h1
 ·unfold stepB
  split
  ·intro h
   cases h
  ·rename_i b hb
   intro hx
   obtain ⟨s, hs⟩ : ∃ s : Bool, s = true ↔ Lv f r i b.list.length := by
    by_cases hL : Lv f r i b.list.length
    ·exact ⟨true, by simp [hL]⟩
    ·exact ⟨false, by simp [hL]⟩
   have h1 : aheadB (b.list.drop 0) s r = true := by
    rw [List.drop_zero]
    refine aheadB_mono (fun hx => ?_) hx
    exact hs.2 (key V b i hb (fun t _ hv => h _ hv) hx)
   exact (lv_block hb hs b.list.length 0 (by omega)).1 h1
 ·have all : ∀ i k, Lv f r i k → ∀ b, f.blocks[i]? = some b → aheadB (b.list.drop k) (behB V b || regIs b.end_.on r) r = true := by
   intro i k hL
   induction hL with
   | on hb hr =>
     intro b' hb'
     rw [hb] at hb'
     injection hb' with e
     subst e
     rw [List.drop_length]
     simp [aheadB, hr]
   | @go i b t hb ht _ ih =>
     intro b' hb'
     rw [hb] at hb'
     injection hb' with e
     subst e
     rw [List.drop_length]
     have : V t.toNat = true := by
      apply h
      unfold stepB
      cases hx : f.blocks[t.toNat]? with
      | none =>
        rename_i hL
        obtain ⟨c, hc⟩ := lv_some hL
        rw [hx] at hc
        cases hc
      | some c =>
        have := ih c hx
        rwa [List.drop_zero] at this
     have : behB V b = true := List.any_eq_true.2 ⟨t, ht, this⟩
     simp [aheadB, this]
   | take hb hx ht =>
     intro b' hb'
     rw [hb] at hb'
     injection hb' with e
     subst e
     rw [aheadB_drop hx, ht]
     rfl
   | pass hb hx hd _ ih =>
     intro b' hb'
     rw [hb] at hb'
     injection hb' with e
     subst e
     rw [aheadB_drop hx, ih _ hb]
     simp [hd]
  intro i hL
  apply h
  unfold stepB
  cases hx : f.blocks[i]? with
  | none =>
    obtain ⟨c, hc⟩ := lv_some hL
    rw [hx] at hc
    cases hc
  | some c =>
    have := all i 0 hL c hx
    rwa [List.drop_zero] at this
end Go.Proofs.YtdanebboiekieaaGreatDoor
namespace Go.Proofs.YtdanebboiekieaaGreatDoor
open Go.RowKit
set_option linter.unusedSimpArgs false
set_option linter.unusedVariables false

def ints (n : Nat) : List Int := (List.range n).map fun k : Nat => (k : Int)
theorem mem_ints {n : Nat} {x : Int} : x ∈ ints n ↔ 0 ≤ x ∧ x < (n : Int) := by
 unfold ints
 rw [List.mem_map]
 constructor
 ·rintro ⟨k, hk, rfl⟩
  rw [List.mem_range] at hk
  omega
 ·rintro ⟨h1, h2⟩
  exact ⟨x.toNat, by rw [List.mem_range]; omega, by omega⟩
theorem ints_succ (n : Nat) : ints (n + 1) = ints n ++ [(n : Int)] := by
 unfold ints
 rw [List.range_succ, List.map_append]
 rfl
theorem ints_len (n : Nat) : (ints n).length = n := by simp [ints]
theorem ints_sorted (n : Nat) : (ints n).Pairwise (· < ·) := by
 induction n with
 | zero => exact List.Pairwise.nil
 | succ n ih =>
   rw [ints_succ, List.pairwise_append]
   refine ⟨ih, List.pairwise_singleton _ _, fun a ha b hb => ?_⟩
   rw [List.mem_singleton] at hb
   have := mem_ints.1 ha
   omega
/-- The numbers that are in, rising. -/
def rowX (X : Int → Bool) (n : Nat) : List Int := (ints n).filter X
theorem mem_rowX {X : Int → Bool} {n : Nat} {x : Int} : x ∈ rowX X n ↔ (0 ≤ x ∧ x < (n : Int)) ∧ X x = true := by
 unfold rowX
 rw [List.mem_filter, mem_ints]
theorem rowX_sorted (X : Int → Bool) (n : Nat) : (rowX X n).Pairwise (· < ·) := (ints_sorted n).filter _
theorem rowX_succ (X : Int → Bool) (n : Nat) : rowX X (n + 1) = rowX X n ++ (if X (n : Int) = true then [(n : Int)] else []) := by
 unfold rowX
 rw [ints_succ, List.filter_append]
 congr 1
 cases h : X (n : Int) <;> simp [h]
theorem rowX_len (X : Int → Bool) (n : Nat) : (rowX X n).length ≤ n := by
 unfold rowX
 have := List.length_filter_le X (ints n)
 rwa [ints_len] at this
theorem rowX_congr {X Y : Int → Bool} {n : Nat} (h : ∀ x, 0 ≤ x → x < (n : Int) → X x = Y x) : rowX X n = rowX Y n := by
 unfold rowX
 apply List.filter_congr
 intro x hx
 have := mem_ints.1 hx
 exact h x this.1 this.2
/-- A sorted list of these numbers is this one. -/
theorem rowX_unique {X : Int → Bool} {n : Nat} {l : List Int} (hs : l.Pairwise (· < ·)) (hm : ∀ x, x ∈ l ↔ ((0 ≤ x ∧ x < (n : Int)) ∧ X x = true)) : l = rowX X n := by
 have nd : ∀ {l : List Int}, l.Pairwise (· < ·) → l.Nodup := fun h => h.imp fun h e => by omega
 refine List.Perm.eq_of_pairwise (le := fun a b => a < b) (fun a b _ _ h1 h2 => by omega) hs (rowX_sorted X n) ?_
 rw [List.perm_ext_iff_of_nodup (nd hs) (nd (rowX_sorted X n))]
 intro x
 rw [hm, mem_rowX]

/-- A register is live ahead of a place. -/
def LvI (f : UFun) (a : Int) (i k : Nat) : Prop := ∃ r : Nat, a = (r : Int) ∧ Lv f r i k
theorem regIs_of {v : UVal} {regs : Int} {r : Nat} (hv : ValOk regs v) (h : regIs v r = true) : (r : Int) < regs := by
 unfold regIs at h
 rw [Bool.and_eq_true, decide_eq_true_eq] at h
 have := hv h.1
 omega
theorem lv_lt {u : Unt} {f : UFun} (hf : FunOk u f) {r i k : Nat} (h : Lv f r i k) : (r : Int) < f.regs := by
 induction h with
 | on hb h => exact regIs_of (hf.on _ (List.mem_of_getElem? hb)) h
 | go _ _ _ ih => exact ih
 | take hb hx h =>
   have hi := hf.ins _ (List.mem_of_getElem? hb) _ (List.mem_of_getElem? hx)
   unfold takesB at h
   simp only [Bool.or_eq_true] at h
   rcases h with (h | h) | h
   ·exact regIs_of hi.a h
   ·exact regIs_of hi.b h
   ·obtain ⟨v, hv, h⟩ := List.any_eq_true.1 h
    exact regIs_of (hi.args v hv) h
 | pass _ _ _ _ ih => exact ih
theorem LvI.lt {u : Unt} {f : UFun} (hf : FunOk u f) {a : Int} {i k : Nat} (h : LvI f a i k) : 0 ≤ a ∧ a < f.regs := by
 obtain ⟨r, rfl, h⟩ := h
 have := lv_lt hf h
 omega
/-- Is a value this register? -/
def isR (v : UVal) (a : Int) : Bool := v.reg && decide (v.n = a)
/-- One is written while the other is wanted. -/
def Crosses (f : UFun) (a b : Int) : Prop := ∃ i k blk x, f.blocks[i]? = some blk ∧ blk.list[k]? = some x ∧ x.dst = a ∧ LvI f b i (k + 1) ∧ ¬ (x.op = 1 ∧ isR x.a b = true)
/-- Two registers that are wanted at once. -/
def Clash (f : UFun) (a b : Int) : Prop := 0 ≤ a ∧ 0 ≤ b ∧ a ≠ b ∧ ((LvI f a 0 0 ∧ LvI f b 0 0) ∨ Crosses f a b ∨ Crosses f b a)
/-- A register that is wanted behind a call. -/
def Across (f : UFun) (a : Int) : Prop := ∃ i k blk x, f.blocks[i]? = some blk ∧ blk.list[k]? = some x ∧ x.op = 20 ∧ x.dst ≠ a ∧ LvI f a i (k + 1)

/-- Registers that are named. -/
def regsV (l : List UVal) : List Int := (l.filter (·.reg)).map (·.n)
theorem regsV_append (l m : List UVal) : regsV (l ++ m) = regsV l ++ regsV m := by simp [regsV]
theorem regsV_cons (v : UVal) (l : List UVal) : regsV (v :: l) = (if v.reg = true then [v.n] else []) ++ regsV l := by
 cases h : v.reg <;> simp [regsV, h]
def regsX (x : UIns) : List Int := (if 0 ≤ x.dst then [x.dst] else []) ++ regsV (valsOf x)
def regsB (b : UBlk) : List Int := b.list.flatMap regsX ++ regsV [b.end_.on]
def regsF (f : UFun) : List Int := f.blocks.flatMap regsB
/-- How often a register is named, as an int counts it. -/
def cntW (l : List Int) (r : Int) : Int := wrap64 ((l.count r : Nat) : Int)
def wgt (f : UFun) (r : Int) : Int := cntW (regsF f) r

/-- Ahead of another one, by weights. -/
def before (w : Int → Int) (a b : Int) : Bool := decide (w b < w a ∨ (w a = w b ∧ a ≤ b))
def sortW (w : Int → Int) (l : List Int) : List Int := l.mergeSort (before w)
theorem before_trans (w : Int → Int) (a b c : Int) (h1 : before w a b = true) (h2 : before w b c = true) : before w a c = true := by
 unfold before at *
 rw [decide_eq_true_eq] at *
 omega
theorem before_total (w : Int → Int) (a b : Int) : (before w a b || before w b a) = true := by
 unfold before
 rw [Bool.or_eq_true, decide_eq_true_eq, decide_eq_true_eq]
 omega
theorem before_anti (w : Int → Int) (a b : Int) (h1 : before w a b = true) (h2 : before w b a = true) : a = b := by
 unfold before at *
 rw [decide_eq_true_eq] at *
 omega
theorem sortW_unique {w : Int → Int} {l m : List Int} (hp : m.Perm l) (hs : m.Pairwise fun a b => before w a b = true) : m = sortW w l := by
 refine List.Perm.eq_of_pairwise (le := fun a b => before w a b = true) (fun a b _ _ => before_anti w a b) hs ?_ (hp.trans (List.mergeSort_perm _ _).symm)
 exact List.pairwise_mergeSort (before_trans w) (before_total w) l
theorem sortW_perm (w : Int → Int) (l : List Int) : (sortW w l).Perm l := List.mergeSort_perm _ _
theorem sortW_nil (w : Int → Int) : sortW w [] = [] := List.mergeSort_nil
/-- May a register of the machine be given, of many? -/
def halfC (many : Int) : Int := if many / 2 + many % 2 > 6 then 6 else many / 2 + many % 2
def givenB (many r : Int) : Bool := decide ((0 ≤ r ∧ r < halfC many) ∨ (6 ≤ r ∧ r < 6 + many - halfC many))
def givenL (many : Int) : List Int := rowX (givenB many) 14
theorem mem_givenL {many r : Int} (h : 2 ≤ many ∧ many ≤ 14) : r ∈ givenL many ↔ givenB many r = true := by
 unfold givenL
 rw [mem_rowX]
 unfold givenB halfC
 rw [decide_eq_true_eq]
 constructor
 ·exact fun h => h.2
 ·intro h1
  refine ⟨?_, h1⟩
  split at h1 <;> omega
def takenB (row pl : List Int) (p : Int) : Bool := row.any fun o => decide (pl.getD o.toNat (-1) = p)
def freeB (many : Int) (ac : Bool) (row pl : List Int) (p : Int) : Bool := givenB many p && (decide (6 ≤ p) || !ac) && !takenB row pl p
/-- What an instruction's copy asks for. -/
def asksX (pl : List Int) (r : Int) (x : UIns) : List Int :=
 if x.op = 1 ∧ x.a.reg = true then (if x.a.n = r then [pl.getD x.dst.toNat (-1)] else []) ++ (if x.dst = r then [pl.getD x.a.n.toNat (-1)] else []) else []
def asksB (pl : List Int) (r : Int) (b : UBlk) : List Int := b.list.flatMap (asksX pl r)
def asksF (f : UFun) (pl : List Int) (r : Int) : List Int := f.blocks.flatMap (asksB pl r) ++ (if r < f.params then [r] else [])
/-- The first free place of the frame. -/
def slotP (t : Int → Bool) : Int := 16 + (((List.range 101).find? fun i : Nat => !t (16 + (i : Int))).getD 0 : Nat)
def paintP (f : UFun) (many : Int) (ac : Bool) (row pl : List Int) (r : Int) : Int :=
 match (asksF f pl r ++ givenL many).find? (freeB many ac row pl) with
 | some p => p
 | none => slotP (takenB row pl)
def stepP1 (f : UFun) (many : Int) (A : Int → Bool) (rows : List (List Int)) (pl : List Int) (r : Int) : List Int := pl.set r.toNat (paintP f many (A r) (rows.getD r.toNat []) pl r)
def wantL (f : UFun) (n : Nat) (L : Int → Bool) : List Int := rowX (fun r => decide (0 < wgt f r) || L r) n
def rowsC (C : Int → Int → Bool) (n : Nat) : List (List Int) := (ints n).map fun a => rowX (C a) n
def colourL (f : UFun) (n : Nat) (many : Int) (C : Int → Int → Bool) (A L : Int → Bool) : List Int :=
 (sortW (wgt f) (wantL f n L)).foldl (stepP1 f many A (rowsC C n)) (List.replicate n (-1))
theorem takenB_few {row pl : List Int} (h : row.length ≤ 100) : ∃ j : Nat, j ≤ 100 ∧ takenB row pl (16 + (j : Int)) = false := by
 apply Classical.byContradiction
 intro hn
 have hall : ∀ j : Nat, j ≤ 100 → takenB row pl (16 + (j : Int)) = true := fun j hj => by
  cases hx : takenB row pl (16 + (j : Int))
  ·exact absurd ⟨j, hj, hx⟩ hn
  ·rfl
 have key : ∀ (m : Nat) (row : List Int), (∀ j : Nat, j < m → takenB row pl (16 + (j : Int)) = true) → m ≤ row.length := fun m => by
  induction m with
  | zero => intro row _; omega
  | succ m ih =>
    intro row hr
    obtain ⟨o, ho, he⟩ := List.any_eq_true.1 (hr m (by omega))
    rw [decide_eq_true_eq] at he
    have h1 := ih (row.erase o) (fun j hj => by
     obtain ⟨o', ho', he'⟩ := List.any_eq_true.1 (hr j (by omega))
     refine List.any_eq_true.2 ⟨o', ?_, he'⟩
     rw [decide_eq_true_eq] at he'
     refine (List.mem_erase_of_ne (fun e => ?_)).2 ho'
     subst e
     omega)
    rw [List.length_erase_of_mem ho] at h1
    have := List.length_pos_of_mem ho
    omega
 have := key 101 row (fun j hj => hall j (by omega))
 omega
theorem slot_spec {row pl : List Int} (h : row.length ≤ 100) : ∃ j : Nat, j ≤ 100 ∧ slotP (takenB row pl) = 16 + (j : Int) ∧ takenB row pl (16 + (j : Int)) = false ∧ ∀ i : Nat, i < j → takenB row pl (16 + (i : Int)) = true := by
 obtain ⟨j0, h0, h1⟩ := takenB_few (pl := pl) h
 unfold slotP
 cases hx : (List.range 101).find? fun i : Nat => !takenB row pl (16 + (i : Int)) with
 | none =>
   rw [List.find?_eq_none] at hx
   have := hx j0 (by rw [List.mem_range]; omega)
   simp [h1] at this
 | some j =>
   rw [List.find?_range_eq_some] at hx
   obtain ⟨h2, h3, h4⟩ := hx
   rw [List.mem_range] at h3
   refine ⟨j, by omega, rfl, by simpa using h2, fun i hi => ?_⟩
   have := h4 i hi
   simpa using this
/-- The frame that places want. -/
def spillsP (pl : List Int) : Int := pl.foldl (fun s p => if 15 + s < p then p - 15 else s) 0
def savesP (pl : List Int) : List Int := (rowX (fun r => decide (r ∈ pl)) 14).filter fun r => decide (6 ≤ r)
end Go.Proofs.YtdanebboiekieaaGreatDoor
namespace Go.Proofs.YtdanebboiekieaaGreatDoor
open Go.RowKit
set_option linter.unusedSimpArgs false
set_option linter.unusedVariables false
open Go.Maps Go.WideShapes Go.MapKept Go.ChangeMaps Go.ChangeShapes

theorem lawI : Maps.Keyed Tryz.prog 3 := Maps.int_keyed Tryz.underlying3
theorem wf_small {x : Int} (h : 0 ≤ x ∧ x < 100) : (Lit.int .i64 x).wf = true := WalkArith.wf_i64 (by omega)
theorem key_int {x : Int} (h : 0 ≤ x ∧ x < 100) : keyOf Tryz.prog 3 (.int .i64 x) = some (.int .i64 x) := Maps.keyOf_int_mk Tryz.underlying3 (wf_small h)
theorem keyLit_int {x : Int} (h : 0 ≤ x ∧ x < 100) : WideAt.IsKeyLit (.int .i64 x) := lawI.key (key_int h)
theorem nodup_le : ∀ (n : Nat) (l : List Int), l.Nodup → (∀ x ∈ l, 0 ≤ x ∧ x < (n : Int)) → l.length ≤ n
 | 0, l, _, h => by
   cases l with
   | nil => exact Nat.le_refl _
   | cons a r => have := h a (.head _); omega
 | n + 1, l, hd, h => by
   have h1 : (l.erase (n : Int)).length ≤ n := nodup_le n _ (hd.erase _) fun x hx => by
    have h2 := h x (List.mem_of_mem_erase hx)
    have h3 : x ≠ (n : Int) := fun e => by
     subst e
     exact absurd hx (List.Nodup.not_mem_erase hd)
    omega
   have h4 : l.length ≤ (l.erase (n : Int)).length + 1 := by
    rw [List.length_erase]
    split <;> omega
   omega
def setIns (X : Int → Bool) (x : Int) : Int → Bool := fun z => X z || decide (z = x)
def setDel (X : Int → Bool) (x : Int) : Int → Bool := fun z => X z && !decide (z = x)
/-- Block B is a set of registers, by a map. -/
def SetM (w : World) (B : Nat) (X : Int → Bool) : Prop :=
 ∃ (D : DataW Value) (l : List Int), w.ownsMap Tryz.prog 3 unitElem B l.length D ∧ (∀ x, Maps.has D (.int .i64 x) = X x) ∧ l.Nodup ∧ (∀ x, x ∈ l ↔ X x = true) ∧ l.length = Maps.size D ∧ ∀ x, X x = true → 0 ≤ x ∧ x < 100
theorem ownsMap_tight {w : World} {B n : Nat} {D : DataW Value} (h : w.ownsMap Tryz.prog 3 unitElem B n D) : w.ownsMap Tryz.prog 3 unitElem B (Maps.size D) D := by
 obtain ⟨es, clock, hb, F, hs, rfl⟩ := h
 exact ⟨es, clock, hb, F, by simp [Maps.size, length_sorted], rfl⟩
theorem SetM.made (w : World) : SetM (w.alloc (.map #[] 0)) w.heap.size (fun _ => false) :=
 ⟨.map [], [], World.ownsMap_made _ _ _ _, fun x => rfl, List.nodup_nil, fun x => by simp, rfl, fun x h => by cases h⟩
theorem SetM.kept {w w' : World} {B : Nat} {X : Int → Bool} {row : Option Nat} (h : SetM w B X) (hg : w.grownBy w' row) (hne : some B ≠ row) : SetM w' B X := by
 obtain ⟨D, l, h1, h2⟩ := h
 exact ⟨D, l, h1.kept hg hne, h2⟩
theorem SetM.lt {w : World} {B : Nat} {X : Int → Bool} (h : SetM w B X) : B < w.heap.size := by
 obtain ⟨D, l, h1, _⟩ := h
 exact h1.lt
theorem SetM.below {w w' : World} {B : Nat} {X : Int → Bool} (h : SetM w B X) (hb : Below w.heap.size w w') : SetM w' B X := h.kept (grown_of_below hb none) (by simp)
theorem SetM.block {w w' : World} {B : Nat} {X : Int → Bool} (h : SetM w B X) (hb : w'.heap[B]? = w.heap[B]?) : SetM w' B X := by
 obtain ⟨D, l, ⟨es, clock, h1, r⟩, h2⟩ := h
 exact ⟨D, l, ⟨es, clock, hb.trans h1, r⟩, h2⟩
theorem SetM.obj {w : World} {B : Nat} {X : Int → Bool} (h : SetM w B X) : ∃ es clock, w.heap[B]? = some (.map es clock) := by
 obtain ⟨D, l, ⟨es, clock, h1, r⟩, h2⟩ := h
 exact ⟨es, clock, h1⟩
theorem SetM.range {w : World} {B : Nat} {X : Int → Bool} (h : SetM w B X) : ∀ x, X x = true → 0 ≤ x ∧ x < 100 := by
 obtain ⟨D, l, _, _, _, _, _, h1⟩ := h
 exact h1
theorem SetM.congr {w : World} {B : Nat} {X Y : Int → Bool} (h : SetM w B X) (he : ∀ x, X x = Y x) : SetM w B Y := by
 rw [show Y = X from funext fun x => (he x).symm]
 exact h
theorem size_ins {D : DataW Value} {X : Int → Bool} {l : List Int} (ht : Tidy D) (hh : ∀ x, Maps.has D (.int .i64 x) = X x) (hd : l.Nodup) (hm : ∀ x, x ∈ l ↔ X x = true) (hl : l.length = Maps.size D) {x : Int} (hx : 0 ≤ x ∧ x < 100) :
 ∃ l' : List Int, l'.Nodup ∧ (∀ z, z ∈ l' ↔ setIns X x z = true) ∧ l'.length = Maps.size (D.put (.int .i64 x) (.agg [])) := by
 rw [size_put ht, hh x]
 cases hX : X x
 ·refine ⟨x :: l, List.nodup_cons.2 ⟨(fun hx => by rw [hm, hX] at hx; exact absurd hx (by decide)), hd⟩, fun z => ?_, by simp [hl]⟩
  unfold setIns
  rw [List.mem_cons, hm, Bool.or_eq_true, decide_eq_true_eq]
  exact Or.comm
 ·refine ⟨l, hd, fun z => ?_, by simp [hl]⟩
  unfold setIns
  rw [hm, Bool.or_eq_true, decide_eq_true_eq]
  exact ⟨Or.inl, fun h => h.elim id fun e => e ▸ hX⟩
theorem has_ins {D : DataW Value} {X : Int → Bool} (hM : IsMap D) (hh : ∀ x, Maps.has D (.int .i64 x) = X x) {x : Int} (hx : 0 ≤ x ∧ x < 100) (z : Int) : Maps.has (D.put (.int .i64 x) (.agg [])) (.int .i64 z) = setIns X x z := by
 unfold setIns
 by_cases e : z = x
 ·subst e
  rw [has_put_same hM (keyLit_int hx)]
  simp
 ·rw [has_put_other (fun h => e (by injection h)), hh]
  simp [e]
theorem range_ins {X : Int → Bool} (hr : ∀ x, X x = true → 0 ≤ x ∧ x < 100) {x : Int} (hx : 0 ≤ x ∧ x < 100) (z : Int) (h : setIns X x z = true) : 0 ≤ z ∧ z < 100 := by
 unfold setIns at h
 rw [Bool.or_eq_true, decide_eq_true_eq] at h
 rcases h with h | h
 ·exact hr z h
 ·subst h
  exact hx
theorem SetM.put {w : World} {B : Nat} {X : Int → Bool} (h : SetM w B X) {x : Int} (hx : 0 ≤ x ∧ x < 100) :
 ∃ w', (Instr.mapUpdate 116 (.map (some B)) (.int .i64 x) (.agg #[])).run Tryz.prog w = .ok () w' ∧ SetM w' B (setIns X x) ∧ w.mapTurned w' B := by
 obtain ⟨D, l, h1, hh, hd, hm, hl, hr⟩ := h
 have h100 : l.length ≤ 100 := nodup_le 100 l hd fun z hz => hr z ((hm z).1 hz)
 obtain ⟨w', h3, h4, h5⟩ := h1.store lawI Tryz.underlying116 (by unfold maxLen; omega) (key_int hx) (val := .agg #[]) unitElem_mk
 obtain ⟨l', a1, a2, a3⟩ := size_ins (h1.tidy lawI) hh hd hm hl hx
 refine ⟨w', h3, ⟨_, l', by rw [a3]; exact ownsMap_tight h4, has_ins h1.isMap hh hx, a1, a2, a3, range_ins hr hx⟩, h5⟩
theorem SetM.drop {w : World} {B : Nat} {X : Int → Bool} (h : SetM w B X) {x : Int} (hw : (Lit.int .i64 x).wf = true) (ty : TypeId) :
 ∃ w', (Builtin.delete_ #[116, 3] ty #[.map (some B), .int .i64 x]).run Tryz.prog w = .ok (.tuple #[]) w' ∧ SetM w' B (setDel X x) ∧ w.mapTurned w' B := by
 obtain ⟨D, l, h1, hh, hd, hm, hl, hr⟩ := h
 have hk : keyOf Tryz.prog 3 (.int .i64 x) = some (.int .i64 x) := Maps.keyOf_int_mk Tryz.underlying3 hw
 obtain ⟨w', h3, h4, h5⟩ := h1.drop lawI Tryz.underlying116 hk ty
 have hlen : (l.erase x).length = Maps.size (D.del (.int .i64 x)) := by
  have := size_del (k := .int .i64 x) (h1.tidy lawI)
  rw [hh x] at this
  rw [List.length_erase]
  by_cases hx : x ∈ l
  ·rw [if_pos hx]
   rw [(hm x).1 hx] at this
   simp at this
   omega
  ·rw [if_neg hx]
   have : X x = false := by
    cases hX : X x
    ·rfl
    ·exact absurd ((hm x).2 hX) hx
   simp [this] at *
   omega
 refine ⟨w', h3, ⟨_, l.erase x, by rw [hlen]; exact ownsMap_tight h4, fun z => ?_, hd.erase _, fun z => ?_, hlen, fun z hz => ?_⟩, h5⟩
 ·unfold setDel
  by_cases e : z = x
  ·subst e
   rw [has_del_same]
   simp
  ·rw [has_del_other (fun h => e (by injection h)), hh]
   simp [e]
 ·unfold setDel
  rw [hd.mem_erase_iff, hm, Bool.and_eq_true, Bool.not_eq_true', decide_eq_false_iff_not]
  exact And.comm
 ·unfold setDel at hz
  rw [Bool.and_eq_true] at hz
  exact hr z hz.1
theorem unit_val {es : Array MapEntry} {clock : Nat} (F : WideElems.Fit (H := Value) Tryz.prog 3 unitElem es clock) {e0 : MapEntry} (h : e0 ∈ es.toList) : e0.val = .agg #[] := by
 obtain ⟨y, hy⟩ := F.reads e0 h
 unfold WideElems.rd at hy
 simp only [Option.bind_eq_some_iff, Option.map_eq_some_iff] at hy
 obtain ⟨_, _, z, hv, _⟩ := hy
 exact (unitElem_inv hv).1
end Go.Proofs.YtdanebboiekieaaGreatDoor
namespace Go.Proofs.YtdanebboiekieaaGreatDoor
open Go.RowKit
set_option linter.unusedSimpArgs false
set_option linter.unusedVariables false

theorem tab_keep {w w' : World} {base : Nat} {e : TypeId} {size n : Nat} {v : Value} {xs : List Value} (h : w.ownsRow base e size v n xs) (hk : ∀ k, v.ownBlock = some k → k < w.heap.size → w'.heap[k]? = w.heap[k]?) : w'.ownsRow base e size v n xs := by
 obtain ⟨h1, h2⟩ := h
 refine ⟨h1, ?_⟩
 rcases h2 with h2 | ⟨g, cap, cur, hv, hb, hh, r⟩
 ·exact .inl h2
 ·have e : v.ownBlock = some g := by rw [hv]; rfl
  exact .inr ⟨g, cap, cur, hv, hb, (hk g e (blk_lt hh)).trans hh, r⟩
def atT (V : List Value) (i : Nat) : Value := V.getD i (.slice none 0 0)
def atI (L : List (List Int)) (i : Nat) : List Int := L.getD i []
theorem atT_set {V : List Value} {i k : Nat} {x : Value} (h : i < V.length) : atT (V.set i x) k = if k = i then x else atT V k := by
 unfold atT
 simp only [List.getD_eq_getElem?_getD, List.getElem?_set]
 by_cases e : k = i
 ·subst e; simp [h]
 ·rw [if_neg (fun h => e h.symm), if_neg e]
theorem atI_set {V : List (List Int)} {i k : Nat} {x : List Int} (h : i < V.length) : atI (V.set i x) k = if k = i then x else atI V k := by
 unfold atI
 simp only [List.getD_eq_getElem?_getD, List.getElem?_set]
 by_cases e : k = i
 ·subst e; simp [h]
 ·rw [if_neg (fun h => e h.symm), if_neg e]
structure Tab (w : World) (base : Nat) (V : List Value) (L : List (List Int)) : Prop where
 len : V.length = L.length
 own : ∀ i, i < L.length → w.ownsRow base 3 1 (atT V i) (atI L i).length ((atI L i).flatMap intCells)
 apart : ∀ i j k, i < L.length → j < L.length → (atT V i).ownBlock = some k → (atT V j).ownBlock = some k → i = j
theorem Tab.lt {w : World} {base : Nat} {V : List Value} {L : List (List Int)} (h : Tab w base V L) {i k : Nat} (hi : i < L.length) (hk : (atT V i).ownBlock = some k) : base ≤ k ∧ k < w.heap.size := (h.own i hi).lt k hk
theorem Tab.keep {w w' : World} {base : Nat} {V : List Value} {L : List (List Int)} (h : Tab w base V L) (hk : ∀ k, base ≤ k → k < w.heap.size → w'.heap[k]? = w.heap[k]?) : Tab w' base V L :=
 ⟨h.len, fun i hi => tab_keep (h.own i hi) fun k e hl => hk k (h.lt hi e).1 hl, h.apart⟩
theorem Tab.first {w : World} {base n : Nat} : Tab w base (List.replicate n (.slice none 0 0)) (List.replicate n []) := by
 have e1 : ∀ i, atT (List.replicate n (Value.slice none 0 0)) i = .slice none 0 0 := fun i => by
  unfold atT; rw [List.getD_eq_getElem?_getD, List.getElem?_replicate]; split <;> rfl
 have e2 : ∀ i, atI (List.replicate n []) i = [] := fun i => by
  unfold atI; rw [List.getD_eq_getElem?_getD, List.getElem?_replicate]; split <;> rfl
 refine ⟨by simp, fun i hi => ?_, fun i j k hi hj h1 h2 => ?_⟩
 ·rw [e1, e2]; exact World.ownsRow_nil _ _ _ _
 ·rw [e1] at h1; cases h1
theorem Tab.push {w w' : World} {base : Nat} {V : List Value} {L : List (List Int)} (h : Tab w base V L) {i : Nat} (hi : i < L.length) {v' : Value} {x : List Int} (hown : w'.ownsRow base 3 1 v' x.length (x.flatMap intCells))
 (hg : w.grownBy w' (atT V i).ownBlock) (hat : v'.ownBlock = (atT V i).ownBlock ∨ v'.ownBlock = some w.heap.size) : Tab w' base (V.set i v') (L.set i x) := by
 have hi' : i < V.length := by rw [h.len]; exact hi
 have new : ∀ j k, j < L.length → j ≠ i → v'.ownBlock = some k → (atT V j).ownBlock ≠ some k := fun j k hj hne e1 e2 => by
  rcases hat with e | e
  ·rw [e1] at e
   exact hne (h.apart j i k hj hi e2 e.symm)
  ·rw [e1] at e
   have := (h.lt hj e2).2
   injection e with e
   omega
 refine ⟨by simp [h.len], fun j hj => ?_, fun a b k ha hb h1 h2 => ?_⟩
 ·rw [List.length_set] at hj
  rw [atT_set hi', atI_set hi]
  by_cases e : j = i
  ·rw [if_pos e, if_pos e]; exact hown
  ·rw [if_neg e, if_neg e]
   exact tab_keep (h.own j hj) fun k ek hl => hg.block k hl fun e2 => e (h.apart j i k hj hi ek e2.symm)
 ·rw [List.length_set] at ha hb
  rw [atT_set hi'] at h1 h2
  by_cases ea : a = i
  ·by_cases eb : b = i
   ·omega
   ·rw [if_pos ea] at h1
    rw [if_neg eb] at h2
    exact absurd h2 (new b k hb eb h1)
  ·by_cases eb : b = i
   ·rw [if_pos eb] at h2
    rw [if_neg ea] at h1
    exact absurd h1 (new a k ha ea h2)
   ·rw [if_neg ea] at h1
    rw [if_neg eb] at h2
    exact h.apart a b k ha hb h1 h2
/-- The table, read. -/
theorem Tab.SL {w : World} {base g : Nat} {V : List Value} {L : List (List Int)} {T : TypeId} (h : Tab w base V L) (hb : w.heap[g]? = some (.cells V.toArray T (0, 0))) (hm : L.length ≤ maxLen) : rpInt.slice.SL w w.heap.size L (.slice (some ⟨g, 0, none⟩) L.length L.length) := by
 refine ⟨_, _, rfl, hm, Nat.le_refl _, fun _ => ⟨g, 0, rfl, blk_lt hb, fun k x hk => ?_⟩⟩
 have hlt := (List.getElem?_eq_some_iff.1 hk).1
 have ex : atI L k = x := by unfold atI; rw [List.getD_eq_getElem?_getD, hk]; rfl
 refine ⟨[atT V k], ⟨_, rfl, ?_⟩, fun j u hj => ?_⟩
 ·have := h.own k hlt
  rw [ex] at this
  exact SLint_own this (Nat.le_refl _)
 ·match j, hj with
  | 0, hj =>
    injection hj with hj
    subst hj
    have hV : k < V.length := by rw [h.len]; exact hlt
    show w.cell? ⟨g, 0 + k * 1 + 0, none⟩ = _
    rw [show 0 + k * 1 + 0 = k from by omega]
    unfold atT
    rw [List.getD_eq_getElem?_getD, List.getElem?_eq_getElem hV]
    simp [World.cell?, hb, hV]
  | j + 1, hj => simp at hj
end Go.Proofs.YtdanebboiekieaaGreatDoor
