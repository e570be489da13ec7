/- The walks, part 5. -/
import Derived.WideKeyEntry
import Derived.Test.YtdanebboiekieaaGreatDoorP04
import Derived.Shelf.SortM.Plain
import Derived.Shelf.SortM.SortNone
import Derived.Sort.OwnSortedInts
import Derived.RangeFuncNested
import Derived.RangeFuncBound
set_option linter.unusedSimpArgs false
set_option linter.unusedVariables false
set_option maxRecDepth 100000
set_option maxHeartbeats 16000000
namespace Go.Proofs.YtdanebboiekieaaGreatDoor
open Go.RowKit
structure SysL {I : Type} (F : (I -> Bool) -> I -> Bool) (L : I -> Prop) : Prop where
 mono : ∀ V W : I -> Bool, (∀ i, V i = true -> W i = true) -> ∀ i, F V i = true -> F W i = true
 sound : ∀ V : I -> Bool, (∀ i, V i = true -> L i) -> ∀ i, F V i = true -> L i
 least : ∀ V : I -> Bool, (∀ i, F V i = true -> V i = true) -> ∀ i, L i -> V i = true
structure GoodL {I : Type} (F : (I -> Bool) -> I -> Bool) (L : I -> Prop) (V : I -> Bool) : Prop where
 sound : ∀ i, V i = true -> L i
 grow : ∀ i, V i = true -> F V i = true
theorem GoodL.first {I : Type} {F : (I -> Bool) -> I -> Bool} {L : I -> Prop} {V : I -> Bool} (h : ∀ i, V i = false) : GoodL F L V :=
 ⟨fun i hi => by rw [h i] at hi; (cases hi), fun i hi => by rw [h i] at hi; (cases hi)⟩
theorem GoodL.step {I : Type} [DecidableEq I] {F : (I -> Bool) -> I -> Bool} {L : I -> Prop} (hs : SysL F L) {V W : I -> Bool} (h : GoodL F L V) {i : I} (hi : W i = F V i) (ho : ∀ j, j ≠ i -> W j = V j) : GoodL F L W := by
 have hup : ∀ j, V j = true -> W j = true := fun j hj => by
  by_cases e : j = i
  ·subst e;rw [hi];exact h.grow j hj
  ·rw [ho j e];exact hj
 refine ⟨fun j hj => ?_, fun j hj => ?_⟩
 ·by_cases e : j = i
  ·subst e;rw [hi] at hj;exact hs.sound V h.sound j hj
  ·rw [ho j e] at hj;exact h.sound j hj
 ·by_cases e : j = i
  ·subst e;rw [hi] at hj;exact hs.mono V W hup j hj
  ·rw [ho j e] at hj;exact hs.mono V W hup j (h.grow j hj)
theorem GoodL.done {I : Type} {F : (I -> Bool) -> I -> Bool} {L : I -> Prop} (hs : SysL F L) {V : I -> Bool} (h : GoodL F L V) (hc : ∀ i, F V i = true -> V i = true) (i : I) : V i = true ↔ L i :=
 ⟨h.sound i, hs.least V hc i⟩
def bAt (S : List Bool) (k : Nat) : Bool := S.getD k false
theorem q6z {S : List Bool} {k : Nat} (h : k < S.length) : S[k]? = some (bAt S k) := by
 unfold bAt;rw [List.getD_eq_getElem?_getD, List.getElem?_eq_getElem h];rfl
theorem q85 {S : List Bool} {i k : Nat} {x : Bool} (h : i < S.length) : bAt (S.set i x) k = if k = i then x else bAt S k := by
 unfold bAt;rw [List.getD_eq_getElem?_getD, List.getD_eq_getElem?_getD, List.getElem?_set]
 by_cases e : i = k
 ·subst e;rw [if_pos rfl, if_pos h, if_pos rfl];rfl
 ·rw [if_neg e, if_neg (fun x => e x.symm)]
theorem qhz (n k : Nat) : bAt (List.replicate n false) k = false := by
 unfold bAt;rw [List.getD_eq_getElem?_getD, List.getElem?_replicate]
 split <;> rfl
theorem qmu {S T : List Bool} (h : S.length = T.length) (he : ∀ k, k < S.length -> bAt S k = bAt T k) : S = T := by
 apply List.ext_getElem? ;intro k
 rcases Nat.lt_or_ge k S.length with hk | hk
 ·rw [q6z hk, q6z (by omega), he k hk]
 ·rw [List.getElem?_eq_none hk, List.getElem?_eq_none (by omega)]
def qn (x : UIns) : List UVal := (if opA x.op = true then [x.a] else []) ++ ((if opB x.op = true then [x.b] else []) ++ x.args)
def regIs (v : UVal) (r : Nat) : Bool := v.reg && decide (v.n = (r : Int))
def q7g (x : UIns) (r : Nat) : Bool := regIs x.a r || regIs x.b r || x.args.any fun v => regIs v r
theorem qjp {v : UVal} (h : isZ v = true) (r : Nat) : regIs v r = false := by
 unfold isZ at h;unfold regIs
 cases hv : v.reg
 ·rfl
 ·rw [hv] at h;simp at h
theorem q76 {u : Unt} {regs : Int} {x : UIns} (h : InsOk u regs x) (r : Nat) : ((qn x).any fun v => regIs v r) = q7g x r := by
 unfold qn q7g;rw [List.any_append, List.any_append, <- Bool.or_assoc]
 congr 1
 congr 1
 ·cases ha : opA x.op
  ·simp [qjp (h.noA ha)]
  ·simp
 ·cases ha : opB x.op
  ·simp [qjp (h.noB ha)]
  ·simp
theorem q49 {u : Unt} {regs : Int} {x : UIns} (h : InsOk u regs x) : ∀ v ∈ qn x, ValOk regs v := by
 intro v hv;unfold qn at hv;rw [List.mem_append, List.mem_append] at hv
 rcases hv with hv | hv | hv
 ·split at hv
  ·simp at hv; subst hv; exact h.a
  ·simp at hv
 ·split at hv
  ·simp at hv; subst hv; exact h.b
  ·simp at hv
 ·exact h.args v hv
def q39 (l : List UIns) (s : Bool) (r : Nat) : Bool := l.foldr (fun x a => q7g x r || (a && !decide (x.dst = (r : Int)))) s
theorem q5l {l : List UIns} {k : Nat} {x : UIns} (h : l[k]? = some x) (s : Bool) (r : Nat) : q39 (l.drop k) s r = (q7g x r || (q39 (l.drop (k + 1)) s r && !decide (x.dst = (r : Int)))) := by
 obtain ⟨hlt, e⟩ := List.getElem?_eq_some_iff.1 h;rw [List.drop_eq_getElem_cons hlt, e];rfl
theorem q82 {l : List UIns} {r : Nat} {s t : Bool} (h : s = true -> t = true) : q39 l s r = true -> q39 l t r = true := by
 induction l with
 | nil => exact h
 | cons x l ih =>
   simp only [q39, List.foldr_cons, Bool.or_eq_true, Bool.and_eq_true];rintro (h1 | ⟨h1, h2⟩)
   ·exact .inl h1
   ·exact .inr ⟨ih h1, h2⟩
inductive Lv (f : UFun) (r : Nat) : Nat -> Nat -> Prop
 | on {i : Nat} {b : UBlk} : f.blocks[i]? = some b -> regIs b.end_.on r = true -> Lv f r i b.list.length
 | go {i : Nat} {b : UBlk} {t : Int} : f.blocks[i]? = some b -> t ∈ b.end_.to -> Lv f r t.toNat 0 -> Lv f r i b.list.length
 | take {i k : Nat} {b : UBlk} {x : UIns} : f.blocks[i]? = some b -> b.list[k]? = some x -> q7g x r = true -> Lv f r i k
 | pass {i k : Nat} {b : UBlk} {x : UIns} : f.blocks[i]? = some b -> b.list[k]? = some x -> x.dst ≠ (r : Int) -> Lv f r i (k + 1) -> Lv f r i k
def Bh (f : UFun) (r i : Nat) : Prop := ∃ b t, f.blocks[i]? = some b ∧ t ∈ b.end_.to ∧ Lv f r t.toNat 0
theorem qj3 {f : UFun} {r i : Nat} {b : UBlk} (hb : f.blocks[i]? = some b) : Lv f r i b.list.length ↔ (regIs b.end_.on r = true ∨ Bh f r i) := by
 constructor
 ·intro h;generalize hk : b.list.length = k at h
  cases h with
  | on hb' h =>
    rw [hb] at hb';injection hb' with e
    subst e;exact .inl h
  | go hb' h h2 => exact .inr ⟨_, _, hb', h, h2⟩
  | take hb' h _ =>
    rw [hb] at hb';injection hb' with e
    subst e;have := (List.getElem?_eq_some_iff.1 h).1;omega
  | pass hb' h _ _ =>
    rw [hb] at hb';injection hb' with e
    subst e;have := (List.getElem?_eq_some_iff.1 h).1;omega
 ·rintro (h | ⟨b', t, hb', ht, h⟩)
  ·exact .on hb h
  ·rw [hb] at hb';injection hb' with e
   subst e;exact .go hb ht h
theorem qfg {f : UFun} {r i k : Nat} {b : UBlk} {x : UIns} (hb : f.blocks[i]? = some b) (hx : b.list[k]? = some x) : Lv f r i k ↔ (q7g x r = true ∨ (x.dst ≠ (r : Int) ∧ Lv f r i (k + 1))) := by
 have hlt := (List.getElem?_eq_some_iff.1 hx).1
 constructor
 ·intro h
  cases h with
  | on hb' h =>
    rw [hb] at hb';injection hb' with e
    subst e;omega
  | go hb' h h2 =>
    rw [hb] at hb';injection hb' with e
    subst e;omega
  | take hb' h h2 =>
    rw [hb] at hb';injection hb' with e
    subst e;rw [hx] at h;injection h with e
    subst e;exact .inl h2
  | pass hb' h h2 h3 =>
    rw [hb] at hb';injection hb' with e
    subst e;rw [hx] at h;injection h with e
    subst e;exact .inr ⟨h2, h3⟩
 ·rintro (h | ⟨h1, h2⟩)
  ·exact .take hb hx h
  ·exact .pass hb hx h1 h2
theorem qff {f : UFun} {r i : Nat} {b : UBlk} (hb : f.blocks[i]? = some b) {s : Bool} (hs : s = true ↔ Lv f r i b.list.length) : ∀ j k, k + j = b.list.length -> (q39 (b.list.drop k) s r = true ↔ Lv f r i k)
 | 0, k, h => by
   have e : k = b.list.length := by omega
   subst e;rw [List.drop_length];exact hs
 | j + 1, k, h => by
   have hk : k < b.list.length := by omega
   have hx : b.list[k]? = some b.list[k] := List.getElem?_eq_getElem hk;rw [q5l hx, qfg hb hx, Bool.or_eq_true, Bool.and_eq_true, qff hb hs j (k + 1) (by omega)];simp only [Bool.not_eq_true', decide_eq_false_iff_not, ne_eq]
   constructor
   ·rintro (h | ⟨h1, h2⟩)
    ·exact .inl h
    ·exact .inr ⟨h2, h1⟩
   ·rintro (h | ⟨h1, h2⟩)
    ·exact .inl h
    ·exact .inr ⟨h2, h1⟩
def behB (V : Nat -> Bool) (b : UBlk) : Bool := b.end_.to.any fun t => V t.toNat
def stepB (f : UFun) (r : Nat) (V : Nat -> Bool) (i : Nat) : Bool := match f.blocks[i]? with
 | none => false
 | some b => q39 b.list (behB V b || regIs b.end_.on r) r
theorem qj4 {f : UFun} {r i k : Nat} (h : Lv f r i k) : ∃ b, f.blocks[i]? = some b := by
 cases h with
 | on h1 _ => exact ⟨_, h1⟩
 | go h1 _ _ => exact ⟨_, h1⟩
 | take h1 _ _ => exact ⟨_, h1⟩
 | pass h1 _ _ _ => exact ⟨_, h1⟩
theorem qkk (f : UFun) (r : Nat) : SysL (stepB f r) fun i => Lv f r i 0 := by
 have key : ∀ (V : Nat -> Bool) (b : UBlk) i, f.blocks[i]? = some b -> ((∀ t ∈ b.end_.to, V t.toNat = true -> Lv f r t.toNat 0) -> ((behB V b || regIs b.end_.on r) = true -> Lv f r i b.list.length)) := fun V b i hb hV h => by
  rw [Bool.or_eq_true] at h
  rcases h with h | h
  ·obtain ⟨t, ht, hv⟩ := List.any_eq_true.1 h;exact .go hb ht (hV t ht hv)
  ·exact .on hb h
 refine ⟨fun V W h i => ?_, fun V h i => ?_, fun V h => ?_⟩
 ·unfold stepB
  split
  ·exact fun h => h
  ·apply q82;simp only [Bool.or_eq_true];rintro (h1 | h1)
   ·left
    obtain ⟨t, ht, hv⟩ := List.any_eq_true.1 h1;exact List.any_eq_true.2 ⟨t, ht, h _ hv⟩
   ·exact .inr h1
 ·unfold stepB
  split
  ·intro h
   cases h
  ·rename_i b hb;intro hx
   obtain ⟨s, hs⟩ : ∃ s : Bool, s = true ↔ Lv f r i b.list.length := by
    by_cases hL : Lv f r i b.list.length
    ·exact ⟨true, by simp [hL]⟩
    ·exact ⟨false, by simp [hL]⟩
   have h1 : q39 (b.list.drop 0) s r = true := by
    rw [List.drop_zero];refine q82 (fun hx => ?_) hx;exact hs.2 (key V b i hb (fun t _ hv => h _ hv) hx)
   exact (qff hb hs b.list.length 0 (by omega)).1 h1
 ·have all : ∀ i k, Lv f r i k -> ∀ b, f.blocks[i]? = some b -> q39 (b.list.drop k) (behB V b || regIs b.end_.on r) r = true := by
   intro i k hL
   induction hL with
   | on hb hr =>
     intro b' hb';rw [hb] at hb';injection hb' with e
     subst e;rw [List.drop_length];simp [q39, hr]
   | @go i b t hb ht _ ih =>
     intro b' hb';rw [hb] at hb';injection hb' with e
     subst e;rw [List.drop_length]
     have : V t.toNat = true := by
      apply h;unfold stepB
      cases hx : f.blocks[t.toNat]? with
      | none =>
        rename_i hL;obtain ⟨c, hc⟩ := qj4 hL;rw [hx] at hc
        cases hc
      | some c =>
        have := ih c hx
        rwa [List.drop_zero] at this
     have : behB V b = true := List.any_eq_true.2 ⟨t, ht, this⟩;simp [q39, this]
   | take hb hx ht =>
     intro b' hb';rw [hb] at hb';injection hb' with e
     subst e;rw [q5l hx, ht];rfl
   | pass hb hx hd _ ih =>
     intro b' hb';rw [hb] at hb';injection hb' with e
     subst e;rw [q5l hx, ih _ hb];simp [hd]
  intro i hL;apply h;unfold stepB
  cases hx : f.blocks[i]? with
  | none =>
    obtain ⟨c, hc⟩ := qj4 hL;rw [hx] at hc
    cases hc
  | some c =>
    have := all i 0 hL c hx
    rwa [List.drop_zero] at this
def ints (n : Nat) : List Int := (List.range n).map fun k : Nat => (k : Int)
theorem mem_ints {n : Nat} {x : Int} : x ∈ ints n ↔ 0 ≤ x ∧ x < (n : Int) := by
 unfold ints;rw [List.mem_map]
 constructor
 ·rintro ⟨k, hk, rfl⟩;rw [List.mem_range] at hk;omega
 ·rintro ⟨h1, h2⟩;exact ⟨x.toNat, by rw [List.mem_range]; omega, by omega⟩
theorem q4s (n : Nat) : ints (n + 1) = ints n ++ [(n : Int)] := by
 unfold ints;rw [List.range_succ, List.map_append];rfl
theorem q2x (n : Nat) : (ints n).length = n := by simp [ints]
theorem qe2 (n : Nat) : (ints n).Pairwise (· < ·) := by
 induction n with
 | zero => exact List.Pairwise.nil
 | succ n ih =>
   rw [q4s, List.pairwise_append];refine ⟨ih, List.pairwise_singleton _ _, fun a ha b hb => ?_⟩;rw [List.mem_singleton] at hb;have := mem_ints.1 ha;omega
def rowX (X : Int -> Bool) (n : Nat) : List Int := (ints n).filter X
theorem mem_rowX {X : Int -> Bool} {n : Nat} {x : Int} : x ∈ rowX X n ↔ (0 ≤ x ∧ x < (n : Int)) ∧ X x = true := by
 unfold rowX;rw [List.mem_filter, mem_ints]
theorem q1s (X : Int -> Bool) (n : Nat) : (rowX X n).Pairwise (· < ·) := (qe2 n).filter _
theorem q8t (X : Int -> Bool) (n : Nat) : rowX X (n + 1) = rowX X n ++ (if X (n : Int) = true then [(n : Int)] else []) := by
 unfold rowX;rw [q4s, List.filter_append]
 congr 1
 cases h : X (n : Int) <;> simp [h]
theorem q5c (X : Int -> Bool) (n : Nat) : (rowX X n).length ≤ n := by
 unfold rowX;have := List.length_filter_le X (ints n)
 rwa [q2x] at this
theorem qh9 {X Y : Int -> Bool} {n : Nat} (h : ∀ x, 0 ≤ x -> x < (n : Int) -> X x = Y x) : rowX X n = rowX Y n := by
 unfold rowX;apply List.filter_congr;intro x hx;have := mem_ints.1 hx;exact h x this.1 this.2
theorem qe9 {X : Int -> Bool} {n : Nat} {l : List Int} (hs : l.Pairwise (· < ·)) (hm : ∀ x, x ∈ l ↔ ((0 ≤ x ∧ x < (n : Int)) ∧ X x = true)) : l = rowX X n := by
 have nd : ∀ {l : List Int}, l.Pairwise (· < ·) -> l.Nodup := fun h => h.imp fun h e => by omega
 refine List.Perm.eq_of_pairwise (le := fun a b => a < b) (fun a b _ _ h1 h2 => by omega) hs (q1s X n) ?_;rw [List.perm_ext_iff_of_nodup (nd hs) (nd (q1s X n))];intro x;rw [hm, mem_rowX]
def LvI (f : UFun) (a : Int) (i k : Nat) : Prop := ∃ r : Nat, a = (r : Int) ∧ Lv f r i k
theorem q7s {v : UVal} {regs : Int} {r : Nat} (hv : ValOk regs v) (h : regIs v r = true) : (r : Int) < regs := by
 unfold regIs at h;rw [Bool.and_eq_true, decide_eq_true_eq] at h;have := hv h.1;omega
theorem qlq {u : Unt} {f : UFun} (hf : FunOk u f) {r i k : Nat} (h : Lv f r i k) : (r : Int) < f.regs := by
 induction h with
 | on hb h => exact q7s (hf.on _ (List.mem_of_getElem? hb)) h
 | go _ _ _ ih => exact ih
 | take hb hx h =>
   have hi := hf.ins _ (List.mem_of_getElem? hb) _ (List.mem_of_getElem? hx);unfold q7g at h;simp only [Bool.or_eq_true] at h
   rcases h with (h | h) | h
   ·exact q7s hi.a h
   ·exact q7s hi.b h
   ·obtain ⟨v, hv, h⟩ := List.any_eq_true.1 h;exact q7s (hi.args v hv) h
 | pass _ _ _ _ ih => exact ih
theorem LvI.lt {u : Unt} {f : UFun} (hf : FunOk u f) {a : Int} {i k : Nat} (h : LvI f a i k) : 0 ≤ a ∧ a < f.regs := by
 obtain ⟨r, rfl, h⟩ := h;have := qlq hf h;omega
def isR (v : UVal) (a : Int) : Bool := v.reg && decide (v.n = a)
def qdb (f : UFun) (a b : Int) : Prop := ∃ i k blk x, f.blocks[i]? = some blk ∧ blk.list[k]? = some x ∧ x.dst = a ∧ LvI f b i (k + 1) ∧ ¬ (x.op = 1 ∧ isR x.a b = true)
def Clash (f : UFun) (a b : Int) : Prop := 0 ≤ a ∧ 0 ≤ b ∧ a ≠ b ∧ ((LvI f a 0 0 ∧ LvI f b 0 0) ∨ qdb f a b ∨ qdb f b a)
def q9f (f : UFun) (a : Int) : Prop := ∃ i k blk x, f.blocks[i]? = some blk ∧ blk.list[k]? = some x ∧ x.op = 20 ∧ x.dst ≠ a ∧ LvI f a i (k + 1)
def regsV (l : List UVal) : List Int := (l.filter (·.reg)).map (·.n)
theorem q1z (l m : List UVal) : regsV (l ++ m) = regsV l ++ regsV m := by simp [regsV]
theorem qh7 (v : UVal) (l : List UVal) : regsV (v :: l) = (if v.reg = true then [v.n] else []) ++ regsV l := by
 cases h : v.reg <;> simp [regsV, h]
def regsX (x : UIns) : List Int := (if 0 ≤ x.dst then [x.dst] else []) ++ regsV (qn x)
def regsB (b : UBlk) : List Int := b.list.flatMap regsX ++ regsV [b.end_.on]
def regsF (f : UFun) : List Int := f.blocks.flatMap regsB
def cntW (l : List Int) (r : Int) : Int := wrap64 ((l.count r : Nat) : Int)
def wgt (f : UFun) (r : Int) : Int := cntW (regsF f) r
def q01 (w : Int -> Int) (a b : Int) : Bool := decide (w b < w a ∨ (w a = w b ∧ a ≤ b))
def sortW (w : Int -> Int) (l : List Int) : List Int := l.mergeSort (q01 w)
theorem q0a (w : Int -> Int) (a b c : Int) (h1 : q01 w a b = true) (h2 : q01 w b c = true) : q01 w a c = true := by
 unfold q01 at *;rw [decide_eq_true_eq] at *;omega
theorem q4o (w : Int -> Int) (a b : Int) : (q01 w a b || q01 w b a) = true := by
 unfold q01;rw [Bool.or_eq_true, decide_eq_true_eq, decide_eq_true_eq];omega
theorem qdj (w : Int -> Int) (a b : Int) (h1 : q01 w a b = true) (h2 : q01 w b a = true) : a = b := by
 unfold q01 at *;rw [decide_eq_true_eq] at *;omega
theorem q4w {w : Int -> Int} {l m : List Int} (hp : m.Perm l) (hs : m.Pairwise fun a b => q01 w a b = true) : m = sortW w l := by
 refine List.Perm.eq_of_pairwise (le := fun a b => q01 w a b = true) (fun a b _ _ => qdj w a b) hs ?_ (hp.trans (List.mergeSort_perm _ _).symm);exact List.pairwise_mergeSort (q0a w) (q4o w) l
theorem qs (w : Int -> Int) (l : List Int) : (sortW w l).Perm l := List.mergeSort_perm _ _
theorem qcv (w : Int -> Int) : sortW w [] = [] := List.mergeSort_nil
def halfC (many : Int) : Int := if many / 2 + many % 2 > 6 then 6 else many / 2 + many % 2
def q2e (many r : Int) : Bool := decide ((0 ≤ r ∧ r < halfC many) ∨ (6 ≤ r ∧ r < 6 + many - halfC many))
def q2c (many : Int) : List Int := rowX (q2e many) 14
theorem q9x {many r : Int} (h : 2 ≤ many ∧ many ≤ 14) : r ∈ q2c many ↔ q2e many r = true := by
 unfold q2c;rw [mem_rowX];unfold q2e halfC;rw [decide_eq_true_eq]
 constructor
 ·exact fun h => h.2
 ·intro h1;refine ⟨?_, h1⟩
  split at h1 <;> omega
def q2g (row pl : List Int) (p : Int) : Bool := row.any fun o => decide (pl.getD o.toNat (-1) = p)
def freeB (many : Int) (ac : Bool) (row pl : List Int) (p : Int) : Bool := q2e many p && (decide (6 ≤ p) || !ac) && !q2g row pl p
def asksX (pl : List Int) (r : Int) (x : UIns) : List Int :=
 if x.op = 1 ∧ x.a.reg = true then (if x.a.n = r then [pl.getD x.dst.toNat (-1)] else []) ++ (if x.dst = r then [pl.getD x.a.n.toNat (-1)] else []) else []
def asksB (pl : List Int) (r : Int) (b : UBlk) : List Int := b.list.flatMap (asksX pl r)
def asksF (f : UFun) (pl : List Int) (r : Int) : List Int := f.blocks.flatMap (asksB pl r) ++ (if r < f.params then [r] else [])
def slotP (t : Int -> Bool) : Int := 16 + (((List.range 101).find? fun i : Nat => !t (16 + (i : Int))).getD 0 : Nat)
def q5f (f : UFun) (many : Int) (ac : Bool) (row pl : List Int) (r : Int) : Int :=
 match (asksF f pl r ++ q2c many).find? (freeB many ac row pl) with
 | some p => p
 | none => slotP (q2g row pl)
def q4j (f : UFun) (many : Int) (A : Int -> Bool) (rows : List (List Int)) (pl : List Int) (r : Int) : List Int := pl.set r.toNat (q5f f many (A r) (rows.getD r.toNat []) pl r)
def wantL (f : UFun) (n : Nat) (L : Int -> Bool) : List Int := rowX (fun r => decide (0 < wgt f r) || L r) n
def rowsC (C : Int -> Int -> Bool) (n : Nat) : List (List Int) := (ints n).map fun a => rowX (C a) n
def qy (f : UFun) (n : Nat) (many : Int) (C : Int -> Int -> Bool) (A L : Int -> Bool) : List Int :=
 (sortW (wgt f) (wantL f n L)).foldl (q4j f many A (rowsC C n)) (List.replicate n (-1))
theorem qa7 {row pl : List Int} (h : row.length ≤ 100) : ∃ j : Nat, j ≤ 100 ∧ q2g row pl (16 + (j : Int)) = false := by
 apply Classical.byContradiction;intro hn
 have hall : ∀ j : Nat, j ≤ 100 -> q2g row pl (16 + (j : Int)) = true := fun j hj => by
  cases hx : q2g row pl (16 + (j : Int))
  ·exact absurd ⟨j, hj, hx⟩ hn
  ·rfl
 have key : ∀ (m : Nat) (row : List Int), (∀ j : Nat, j < m -> q2g row pl (16 + (j : Int)) = true) -> m ≤ row.length := fun m => by
  induction m with
  | zero => intro row _; omega
  | succ m ih =>
    intro row hr;obtain ⟨o, ho, he⟩ := List.any_eq_true.1 (hr m (by omega));rw [decide_eq_true_eq] at he
    have h1 := ih (row.erase o) (fun j hj => by
     obtain ⟨o', ho', he'⟩ := List.any_eq_true.1 (hr j (by omega));refine List.any_eq_true.2 ⟨o', ?_, he'⟩;rw [decide_eq_true_eq] at he';refine (List.mem_erase_of_ne (fun e => ?_)).2 ho';subst e;omega)
    rw [List.length_erase_of_mem ho] at h1;have := List.length_pos_of_mem ho;omega
 have := key 101 row (fun j hj => hall j (by omega));omega
theorem qke {row pl : List Int} (h : row.length ≤ 100) : ∃ j : Nat, j ≤ 100 ∧ slotP (q2g row pl) = 16 + (j : Int) ∧ q2g row pl (16 + (j : Int)) = false ∧ ∀ i : Nat, i < j -> q2g row pl (16 + (i : Int)) = true := by
 obtain ⟨j0, h0, h1⟩ := qa7 (pl := pl) h;unfold slotP
 cases hx : (List.range 101).find? fun i : Nat => !q2g row pl (16 + (i : Int)) with
 | none =>
   rw [List.find?_eq_none] at hx;have := hx j0 (by rw [List.mem_range]; omega);simp [h1] at this
 | some j =>
   rw [List.find?_range_eq_some] at hx;obtain ⟨h2, h3, h4⟩ := hx;rw [List.mem_range] at h3;refine ⟨j, by omega, rfl, by simpa using h2, fun i hi => ?_⟩;have := h4 i hi;simpa using this
def q0o (pl : List Int) : Int := pl.foldl (fun s p => if 15 + s < p then p - 15 else s) 0
def q3k (pl : List Int) : List Int := (rowX (fun r => decide (r ∈ pl)) 14).filter fun r => decide (6 ≤ r)
end Go.Proofs.YtdanebboiekieaaGreatDoor
namespace Go.Proofs.YtdanebboiekieaaGreatDoor
open Go.RowKit
open Go.Maps Go.WideShapes Go.MapKept Go.ChangeMaps Go.ChangeShapes
theorem lawI : Maps.Keyed Tryz.prog 3 := Maps.int_keyed Tryz.underlying3
theorem qmk {x : Int} (h : 0 ≤ x ∧ x < 100) : (Lit.int .i64 x).wf = true := WalkArith.wf_i64 (by omega)
theorem qe3 {x : Int} (h : 0 ≤ x ∧ x < 100) : keyOf Tryz.prog 3 (.int .i64 x) = some (.int .i64 x) := Maps.keyOf_int_mk Tryz.underlying3 (qmk h)
theorem qgu {x : Int} (h : 0 ≤ x ∧ x < 100) : WideAt.IsKeyLit (.int .i64 x) := lawI.key (qe3 h)
theorem qat : ∀ (n : Nat) (l : List Int), l.Nodup -> (∀ x ∈ l, 0 ≤ x ∧ x < (n : Int)) -> l.length ≤ n
 | 0, l, _, h => by
   cases l with
   | nil => exact Nat.le_refl _
   | cons a r => have := h a (.head _); omega
 | n + 1, l, hd, h => by
   have h1 : (l.erase (n : Int)).length ≤ n := qat n _ (hd.erase _) fun x hx => by
    have h2 := h x (List.mem_of_mem_erase hx)
    have h3 : x ≠ (n : Int) := fun e => by
     subst e;exact absurd hx (List.Nodup.not_mem_erase hd)
    omega
   have h4 : l.length ≤ (l.erase (n : Int)).length + 1 := by
    rw [List.length_erase]
    split <;> omega
   omega
def q1g (X : Int -> Bool) (x : Int) : Int -> Bool := fun z => X z || decide (z = x)
def q3l (X : Int -> Bool) (x : Int) : Int -> Bool := fun z => X z && !decide (z = x)
def SetM (w : World) (B : Nat) (X : Int -> Bool) : Prop :=
 ∃ (D : DataW Value) (l : List Int), w.ownsMap Tryz.prog 3 unitElem B l.length D ∧ (∀ x, Maps.has D (.int .i64 x) = X x) ∧ l.Nodup ∧ (∀ x, x ∈ l ↔ X x = true) ∧ l.length = Maps.size D ∧ ∀ x, X x = true -> 0 ≤ x ∧ x < 100
theorem q6k {w : World} {B n : Nat} {D : DataW Value} (h : w.ownsMap Tryz.prog 3 unitElem B n D) : w.ownsMap Tryz.prog 3 unitElem B (Maps.size D) D := by
 obtain ⟨es, clock, hb, F, hs, rfl⟩ := h;exact ⟨es, clock, hb, F, by simp [Maps.size, length_sorted], rfl⟩
theorem SetM.made (w : World) : SetM (w.alloc (.map #[] 0)) w.heap.size (fun _ => false) :=
 ⟨.map [], [], World.ownsMap_made _ _ _ _, fun x => rfl, List.nodup_nil, fun x => by simp, rfl, fun x h => by cases h⟩
theorem SetM.kept {w w' : World} {B : Nat} {X : Int -> Bool} {row : Option Nat} (h : SetM w B X) (hg : w.grownBy w' row) (hne : some B ≠ row) : SetM w' B X := by
 obtain ⟨D, l, h1, h2⟩ := h;exact ⟨D, l, h1.kept hg hne, h2⟩
theorem SetM.lt {w : World} {B : Nat} {X : Int -> Bool} (h : SetM w B X) : B < w.heap.size := by
 obtain ⟨D, l, h1, _⟩ := h;exact h1.lt
theorem SetM.below {w w' : World} {B : Nat} {X : Int -> Bool} (h : SetM w B X) (hb : Below w.heap.size w w') : SetM w' B X := h.kept (qw hb none) (by simp)
theorem SetM.block {w w' : World} {B : Nat} {X : Int -> Bool} (h : SetM w B X) (hb : w'.heap[B]? = w.heap[B]?) : SetM w' B X := by
 obtain ⟨D, l, ⟨es, clock, h1, r⟩, h2⟩ := h;exact ⟨D, l, ⟨es, clock, hb.trans h1, r⟩, h2⟩
theorem SetM.obj {w : World} {B : Nat} {X : Int -> Bool} (h : SetM w B X) : ∃ es clock, w.heap[B]? = some (.map es clock) := by
 obtain ⟨D, l, ⟨es, clock, h1, r⟩, h2⟩ := h;exact ⟨es, clock, h1⟩
theorem SetM.range {w : World} {B : Nat} {X : Int -> Bool} (h : SetM w B X) : ∀ x, X x = true -> 0 ≤ x ∧ x < 100 := by
 obtain ⟨D, l, _, _, _, _, _, h1⟩ := h;exact h1
theorem SetM.congr {w : World} {B : Nat} {X Y : Int -> Bool} (h : SetM w B X) (he : ∀ x, X x = Y x) : SetM w B Y := by
 rw [show Y = X from funext fun x => (he x).symm];exact h
theorem qmd {D : DataW Value} {X : Int -> Bool} {l : List Int} (ht : Tidy D) (hh : ∀ x, Maps.has D (.int .i64 x) = X x) (hd : l.Nodup) (hm : ∀ x, x ∈ l ↔ X x = true) (hl : l.length = Maps.size D) {x : Int} (hx : 0 ≤ x ∧ x < 100) :
 ∃ l' : List Int, l'.Nodup ∧ (∀ z, z ∈ l' ↔ q1g X x z = true) ∧ l'.length = Maps.size (D.put (.int .i64 x) (.agg [])) := by
 rw [size_put ht, hh x]
 cases hX : X x
 ·refine ⟨x :: l, List.nodup_cons.2 ⟨(fun hx => by rw [hm, hX] at hx; exact absurd hx (by decide)), hd⟩, fun z => ?_, by simp [hl]⟩;unfold q1g;rw [List.mem_cons, hm, Bool.or_eq_true, decide_eq_true_eq];exact Or.comm
 ·refine ⟨l, hd, fun z => ?_, by simp [hl]⟩;unfold q1g;rw [hm, Bool.or_eq_true, decide_eq_true_eq];exact ⟨Or.inl, fun h => h.elim id fun e => e ▸ hX⟩
theorem qn7 {D : DataW Value} {X : Int -> Bool} (hM : IsMap D) (hh : ∀ x, Maps.has D (.int .i64 x) = X x) {x : Int} (hx : 0 ≤ x ∧ x < 100) (z : Int) : Maps.has (D.put (.int .i64 x) (.agg [])) (.int .i64 z) = q1g X x z := by
 unfold q1g
 by_cases e : z = x
 ·subst e;rw [has_put_same hM (qgu hx)];simp
 ·rw [has_put_other (fun h => e (by injection h)), hh];simp [e]
theorem qjn {X : Int -> Bool} (hr : ∀ x, X x = true -> 0 ≤ x ∧ x < 100) {x : Int} (hx : 0 ≤ x ∧ x < 100) (z : Int) (h : q1g X x z = true) : 0 ≤ z ∧ z < 100 := by
 unfold q1g at h;rw [Bool.or_eq_true, decide_eq_true_eq] at h
 rcases h with h | h
 ·exact hr z h
 ·subst h;exact hx
theorem SetM.put {w : World} {B : Nat} {X : Int -> Bool} (h : SetM w B X) {x : Int} (hx : 0 ≤ x ∧ x < 100) :
 ∃ w', (Instr.mapUpdate 116 (.map (some B)) (.int .i64 x) (.agg #[])).run Tryz.prog w = .ok () w' ∧ SetM w' B (q1g X x) ∧ w.mapTurned w' B := by
 obtain ⟨D, l, h1, hh, hd, hm, hl, hr⟩ := h;have h100 : l.length ≤ 100 := qat 100 l hd fun z hz => hr z ((hm z).1 hz);obtain ⟨w', h3, h4, h5⟩ := h1.store lawI Tryz.underlying116 (by unfold maxLen; omega) (qe3 hx) (val := .agg #[]) unitElem_mk;obtain ⟨l', a1, a2, a3⟩ := qmd (h1.tidy lawI) hh hd hm hl hx;refine ⟨w', h3, ⟨_, l', by rw [a3]; exact q6k h4, qn7 h1.isMap hh hx, a1, a2, a3, qjn hr hx⟩, h5⟩
theorem SetM.drop {w : World} {B : Nat} {X : Int -> Bool} (h : SetM w B X) {x : Int} (hw : (Lit.int .i64 x).wf = true) (ty : TypeId) :
 ∃ w', (Builtin.delete_ #[116, 3] ty #[.map (some B), .int .i64 x]).run Tryz.prog w = .ok (.tuple #[]) w' ∧ SetM w' B (q3l X x) ∧ w.mapTurned w' B := by
 obtain ⟨D, l, h1, hh, hd, hm, hl, hr⟩ := h;have hk : keyOf Tryz.prog 3 (.int .i64 x) = some (.int .i64 x) := Maps.keyOf_int_mk Tryz.underlying3 hw;obtain ⟨w', h3, h4, h5⟩ := h1.drop lawI Tryz.underlying116 hk ty
 have hlen : (l.erase x).length = Maps.size (D.del (.int .i64 x)) := by
  have := size_del (k := .int .i64 x) (h1.tidy lawI);rw [hh x] at this;rw [List.length_erase]
  by_cases hx : x ∈ l
  ·rw [if_pos hx];rw [(hm x).1 hx] at this;simp at this;omega
  ·rw [if_neg hx]
   have : X x = false := by
    cases hX : X x
    ·rfl
    ·exact absurd ((hm x).2 hX) hx
   simp [this] at *;omega
 refine ⟨w', h3, ⟨_, l.erase x, by rw [hlen]; exact q6k h4, fun z => ?_, hd.erase _, fun z => ?_, hlen, fun z hz => ?_⟩, h5⟩
 ·unfold q3l
  by_cases e : z = x
  ·subst e;rw [has_del_same];simp
  ·rw [has_del_other (fun h => e (by injection h)), hh];simp [e]
 ·unfold q3l;rw [hd.mem_erase_iff, hm, Bool.and_eq_true, Bool.not_eq_true', decide_eq_false_iff_not];exact And.comm
 ·unfold q3l at hz;rw [Bool.and_eq_true] at hz;exact hr z hz.1
theorem qmi {es : Array MapEntry} {clock : Nat} (F : WideElems.Fit (H := Value) Tryz.prog 3 unitElem es clock) {e0 : MapEntry} (h : e0 ∈ es.toList) : e0.val = .agg #[] := by
 obtain ⟨y, hy⟩ := F.reads e0 h;unfold WideElems.rd at hy;simp only [Option.bind_eq_some_iff, Option.map_eq_some_iff] at hy;obtain ⟨_, _, z, hv, _⟩ := hy;exact (unitElem_inv hv).1
end Go.Proofs.YtdanebboiekieaaGreatDoor
namespace Go.Proofs.YtdanebboiekieaaGreatDoor
open Go.RowKit
theorem qfu {w w' : World} {base : Nat} {e : TypeId} {size n : Nat} {v : Value} {xs : List Value} (h : w.ownsRow base e size v n xs) (hk : ∀ k, v.ownBlock = some k -> k < w.heap.size -> w'.heap[k]? = w.heap[k]?) : w'.ownsRow base e size v n xs := by
 obtain ⟨h1, h2⟩ := h;refine ⟨h1, ?_⟩
 rcases h2 with h2 | ⟨g, cap, cur, hv, hb, hh, r⟩
 ·exact .inl h2
 ·have e : v.ownBlock = some g := by rw [hv]; rfl
  exact .inr ⟨g, cap, cur, hv, hb, (hk g e (qa hh)).trans hh, r⟩
def atT (V : List Value) (i : Nat) : Value := V.getD i (.slice none 0 0)
def atI (L : List (List Int)) (i : Nat) : List Int := L.getD i []
theorem qhy {V : List Value} {i k : Nat} {x : Value} (h : i < V.length) : atT (V.set i x) k = if k = i then x else atT V k := by
 unfold atT;simp only [List.getD_eq_getElem?_getD, List.getElem?_set]
 by_cases e : k = i
 ·subst e; simp [h]
 ·rw [if_neg (fun h => e h.symm), if_neg e]
theorem qhx {V : List (List Int)} {i k : Nat} {x : List Int} (h : i < V.length) : atI (V.set i x) k = if k = i then x else atI V k := by
 unfold atI;simp only [List.getD_eq_getElem?_getD, List.getElem?_set]
 by_cases e : k = i
 ·subst e; simp [h]
 ·rw [if_neg (fun h => e h.symm), if_neg e]
structure Tab (w : World) (base : Nat) (V : List Value) (L : List (List Int)) : Prop where
 len : V.length = L.length
 own : ∀ i, i < L.length -> w.ownsRow base 3 1 (atT V i) (atI L i).length ((atI L i).flatMap qh)
 apart : ∀ i j k, i < L.length -> j < L.length -> (atT V i).ownBlock = some k -> (atT V j).ownBlock = some k -> i = j
theorem Tab.lt {w : World} {base : Nat} {V : List Value} {L : List (List Int)} (h : Tab w base V L) {i k : Nat} (hi : i < L.length) (hk : (atT V i).ownBlock = some k) : base ≤ k ∧ k < w.heap.size := (h.own i hi).lt k hk
theorem Tab.keep {w w' : World} {base : Nat} {V : List Value} {L : List (List Int)} (h : Tab w base V L) (hk : ∀ k, base ≤ k -> k < w.heap.size -> w'.heap[k]? = w.heap[k]?) : Tab w' base V L :=
 ⟨h.len, fun i hi => qfu (h.own i hi) fun k e hl => hk k (h.lt hi e).1 hl, h.apart⟩
theorem Tab.first {w : World} {base n : Nat} : Tab w base (List.replicate n (.slice none 0 0)) (List.replicate n []) := by
 have e1 : ∀ i, atT (List.replicate n (Value.slice none 0 0)) i = .slice none 0 0 := fun i => by
  unfold atT; rw [List.getD_eq_getElem?_getD, List.getElem?_replicate]; split <;> rfl
 have e2 : ∀ i, atI (List.replicate n []) i = [] := fun i => by
  unfold atI; rw [List.getD_eq_getElem?_getD, List.getElem?_replicate]; split <;> rfl
 refine ⟨by simp, fun i hi => ?_, fun i j k hi hj h1 h2 => ?_⟩
 ·rw [e1, e2]; exact World.ownsRow_nil _ _ _ _
 ·rw [e1] at h1; cases h1
theorem Tab.push {w w' : World} {base : Nat} {V : List Value} {L : List (List Int)} (h : Tab w base V L) {i : Nat} (hi : i < L.length) {v' : Value} {x : List Int} (hown : w'.ownsRow base 3 1 v' x.length (x.flatMap qh))
 (hg : w.grownBy w' (atT V i).ownBlock) (hat : v'.ownBlock = (atT V i).ownBlock ∨ v'.ownBlock = some w.heap.size) : Tab w' base (V.set i v') (L.set i x) := by
 have hi' : i < V.length := by rw [h.len]; exact hi
 have new : ∀ j k, j < L.length -> j ≠ i -> v'.ownBlock = some k -> (atT V j).ownBlock ≠ some k := fun j k hj hne e1 e2 => by
  rcases hat with e | e
  ·rw [e1] at e;exact hne (h.apart j i k hj hi e2 e.symm)
  ·rw [e1] at e;have := (h.lt hj e2).2;injection e with e
   omega
 refine ⟨by simp [h.len], fun j hj => ?_, fun a b k ha hb h1 h2 => ?_⟩
 ·rw [List.length_set] at hj;rw [qhy hi', qhx hi]
  by_cases e : j = i
  ·rw [if_pos e, if_pos e]; exact hown
  ·rw [if_neg e, if_neg e];exact qfu (h.own j hj) fun k ek hl => hg.block k hl fun e2 => e (h.apart j i k hj hi ek e2.symm)
 ·rw [List.length_set] at ha hb;rw [qhy hi'] at h1 h2
  by_cases ea : a = i
  ·by_cases eb : b = i
   ·omega
   ·rw [if_pos ea] at h1;rw [if_neg eb] at h2;exact absurd h2 (new b k hb eb h1)
  ·by_cases eb : b = i
   ·rw [if_pos eb] at h2;rw [if_neg ea] at h1;exact absurd h1 (new a k ha ea h2)
   ·rw [if_neg ea] at h1;rw [if_neg eb] at h2;exact h.apart a b k ha hb h1 h2
theorem Tab.SL {w : World} {base g : Nat} {V : List Value} {L : List (List Int)} {T : TypeId} (h : Tab w base V L) (hb : w.heap[g]? = some (.cells V.toArray T (0, 0))) (hm : L.length ≤ maxLen) : rpInt.slice.SL w w.heap.size L (.slice (some ⟨g, 0, none⟩) L.length L.length) := by
 refine ⟨_, _, rfl, hm, Nat.le_refl _, fun _ => ⟨g, 0, rfl, qa hb, fun k x hk => ?_⟩⟩;have hlt := (List.getElem?_eq_some_iff.1 hk).1;have ex : atI L k = x := by unfold atI; rw [List.getD_eq_getElem?_getD, hk]; rfl
 refine ⟨[atT V k], ⟨_, rfl, ?_⟩, fun j u hj => ?_⟩
 ·have := h.own k hlt;rw [ex] at this;exact q4n this (Nat.le_refl _)
 ·match j, hj with
  | 0, hj =>
    injection hj with hj
    subst hj;have hV : k < V.length := by rw [h.len]; exact hlt
    show w.cell? ⟨g, 0 + k * 1 + 0, none⟩ = _;rw [show 0 + k * 1 + 0 = k from by omega];unfold atT;rw [List.getD_eq_getElem?_getD, List.getElem?_eq_getElem hV];simp [World.cell?, hb, hV]
  | j + 1, hj => simp at hj
theorem qib {S S' : List (List Int)} (h : S.length = S'.length) (he : ∀ i, i < S.length -> atI S i = atI S' i) : S = S' := by
 apply List.ext_getElem h;intro i h1 h2;have := he i h1;unfold atI at this;rw [List.getD_eq_getElem?_getD, List.getD_eq_getElem?_getD, List.getElem?_eq_getElem h1, List.getElem?_eq_getElem h2] at this;simpa using this
theorem q72 : (Tryz.prog.info? 26).map (fun i => (i.zero, i.size, i.bytes)) = some (some (.slice none 0 0), 1, 24) := by kernel_rfl
theorem qce (W : World) (n : Nat) (hn : n ≤ 5000) : (Instr.makeSlice 87 (.int .i64 (n : Int)) (.int .i64 (n : Int))).run Tryz.prog W = .ok (.slice (some ⟨W.heap.size, 0, none⟩) n n) (W.alloc (.cells (List.replicate n (Value.slice none 0 0)).toArray 26)) := by
 obtain ⟨iB, hi, z0, z1, z2⟩ := info_parts q72;have h := run_make (P := Tryz.prog) W 87 26 iB _ Tryz.underlying87 hi z0 .i64 .i64 (n : Int) (n : Int) (by omega) (Int.le_refl _) (by rw [z2]; omega) (by omega);rw [z1] at h;simp only [Int.toNat_natCast, Nat.mul_one] at h
 have e : madeCells (Value.slice none 0 0).cells n = (List.replicate n (Value.slice none 0 0)).toArray := by
  unfold madeCells;apply Array.ext
  ·simp
  ·intro i h1 h2;simp [Value.cells, Nat.mod_one]
 rw [e] at h;exact h
theorem qae {ops : Array Oper} {rest : List Oper} {o : Oper} {a : Act} {w : World} {Q : Exit -> Act -> World -> Prop} (hgd : o.guard = none) (s x : Operand) (ho : o.op = .call { callee := .builtin .append, args := #[s, x], argTypes := #[26, 26] })
 {base : Nat} {v : Value} {xs : List Int} (hs : a.eval s = v) (hown : w.ownsRow base 3 1 v xs.length (xs.flatMap qh)) (g : Nat) (y : Int) (hx : a.eval x = .slice (some ⟨g, 0, none⟩) 1 1) (hg : w.heap[g]? = some (.cells #[.int .i64 y] 3 (0, 0))) (hfew : xs.length ≤ 100) (hbase : base ≤ w.heap.size)
 (h : ∀ v' w', w'.ownsRow base 3 1 v' (xs ++ [y]).length ((xs ++ [y]).flatMap qh) -> w.grownBy w' v.ownBlock -> (v'.ownBlock = v.ownBlock ∨ v'.ownBlock = some w.heap.size) -> wpList Tryz.prog ops Q rest (a.put o.dst v') w') : wpList Tryz.prog ops Q (o :: rest) a w := by
 obtain ⟨i0, hi0, hz0, hz1, hz2⟩ := info_parts qis;refine wpList_append_own_at w hgd s x 26 ho base 3 i0 _ 1 8 Tryz.underlying26 hi0 hz0 hz1 hz2 rfl (by decide) v xs.length (xs.flatMap qh) hs hown ⟨g, 0, none⟩ 1 1 ([y].flatMap qh) hx rfl (fun j u hj => ?_) (qni [y]) (by unfold maxLen; omega) (by omega) hbase (fun v' w' h1 h2 _ h3 => h v' w' ?_ h2 h3)
 ·match j, hj with
  | 0, hj =>
    have e : u = .int .i64 y := by
     have : (some (Value.int .i64 y)) = some u := hj;exact (Option.some.inj this).symm
    rw [e, Addr.add_lit];simp [World.cell?, hg]
  | j + 1, hj => simp [qh] at hj
 ·rw [List.length_append, List.flatMap_append];exact h1
theorem Tab.not {w : World} {base : Nat} {V : List Value} {L : List (List Int)} (h : Tab w base V L) {i b : Nat} (hi : i < L.length) {A : Array Value} {T : TypeId} {fr : Nat × Nat} (hb : w.heap[b]? = some (.cells A T fr)) (hT : T ≠ 3) : some b ≠ (atT V i).ownBlock := by
 intro e
 rcases (h.own i hi).2 with ⟨hn, _⟩ | ⟨g', cap, cur, hv, _, hh, _⟩
 ·rw [hn] at e; cases e
 ·rw [hv] at e;obtain rfl : b = g' := Option.some.inj e;rw [hb] at hh;injection hh with hh
  injection hh with _ h2
  exact hT h2
theorem Tab.SLF {w : World} {base g b : Nat} {V : List Value} {L : List (List Int)} {T : TypeId} (h : Tab w base V L) (hb : w.heap[g]? = some (.cells V.toArray T (0, 0))) (hg : b ≤ g) (hbase : b ≤ base) (hm : L.length ≤ maxLen) : rpInt.slice.SLF w b w.heap.size L (.slice (some ⟨g, 0, none⟩) L.length L.length) := by
 have h1 : Tab (only w fun k => decide (b ≤ k)) b V L := ⟨h.len, fun i hi => q4v (q1y (h.own i hi) hbase), h.apart⟩;have h2 := h1.SL (g := g) (T := T) (by rw [q46 _ _ _ (by simpa using hg)]; exact hb) hm;rw [q47] at h2;exact h2
end Go.Proofs.YtdanebboiekieaaGreatDoor
namespace Go.Proofs.YtdanebboiekieaaGreatDoor
open Go.RowKit
open Go.Sort Go.Shelf
def qo9 : Go.Shelf.Ren := ⟨fun | 5 => 99 | 7 => 130 | 8 => 131 | 10 => 139 | 11 => 140 | 12 => 141 | 13 => 142 | 14 => 143 | 15 => 144 | 16 => 145 | 17 => 146 | 18 => 147 | 19 => 148 | 20 => 149 | 30 => 158 | 31 => 159 | 32 => 160 | 33 => 161 | 34 => 162 | 35 => 80 | 40 => 163 | n => n, fun | 0 => 0 | 3 => 3 | 4 => 4 | 5 => 5 | 9 => 9 | 22 => 26 | 23 => 26 | 25 => 3 | 32 => 180 | 35 => 187 | 36 => 188 | 41 => 138 | 44 => 194 | 46 => 196 | 53 => 200 | 57 => 204 | 63 => 207 | 64 => 208 | n => n, fun n => n⟩
theorem qkh : SlLaysM.n5 Tryz.prog qo9 where
 mixed := by kernel_rfl
 f5 := ⟨ "slices.Sort[[]int,int]", by decide, Tryz.func99.trans (congrArg some (by kernel_rfl))⟩
 f7 := ⟨ "slices.pdqsortOrdered[int]", by decide, Tryz.func130.trans (congrArg some (by kernel_rfl))⟩
 f8 := Tryz.func131.trans (congrArg some (by kernel_rfl))
 f10 := ⟨ "slices.insertionSortOrdered[int]", by decide, Tryz.func139.trans (congrArg some (by kernel_rfl))⟩
 f11 := ⟨ "slices.heapSortOrdered[int]", by decide, Tryz.func140.trans (congrArg some (by kernel_rfl))⟩
 f12 := ⟨ "slices.breakPatternsOrdered[int]", by decide, Tryz.func141.trans (congrArg some (by kernel_rfl))⟩
 f13 := ⟨ "slices.choosePivotOrdered[int]", by decide, Tryz.func142.trans (congrArg some (by kernel_rfl))⟩
 f14 := ⟨ "slices.reverseRangeOrdered[int]", by decide, Tryz.func143.trans (congrArg some (by kernel_rfl))⟩
 f15 := ⟨ "slices.partialInsertionSortOrdered[int]", by decide, Tryz.func144.trans (congrArg some (by kernel_rfl))⟩
 f16 := ⟨ "cmp.Less[int]", by decide, Tryz.func145.trans (congrArg some (by kernel_rfl))⟩
 f17 := ⟨ "slices.partitionEqualOrdered[int]", by decide, Tryz.func146.trans (congrArg some (by kernel_rfl))⟩
 f18 := ⟨ "slices.partitionOrdered[int]", by decide, Tryz.func147.trans (congrArg some (by kernel_rfl))⟩
 f19 := Tryz.func148.trans (congrArg some (by kernel_rfl))
 f20 := Tryz.func149.trans (congrArg some (by kernel_rfl))
 f30 := ⟨ "slices.siftDownOrdered[int]", by decide, Tryz.func158.trans (congrArg some (by kernel_rfl))⟩
 f31 := Tryz.func159.trans (congrArg some (by kernel_rfl))
 f32 := Tryz.func160.trans (congrArg some (by kernel_rfl))
 f33 := ⟨ "slices.medianAdjacentOrdered[int]", by decide, Tryz.func161.trans (congrArg some (by kernel_rfl))⟩
 f34 := ⟨ "slices.medianOrdered[int]", by decide, Tryz.func162.trans (congrArg some (by kernel_rfl))⟩
 f35 := ⟨ "cmp.isNaN[int]", by decide, Tryz.func80.trans (congrArg some (by kernel_rfl))⟩
 f40 := ⟨ "slices.order2Ordered[int]", by decide, Tryz.func163.trans (congrArg some (by kernel_rfl))⟩
 t0 := Tryz.underlying0
 a0 := Tryz.isAgg0
 z0 := Tryz.sizeOf0
 v0 := Tryz.zeroValue0
 t3 := Tryz.underlying3
 a3 := Tryz.isAgg3
 z3 := Tryz.sizeOf3
 v3 := Tryz.zeroValue3
 t4 := Tryz.underlying4
 a4 := Tryz.isAgg4
 z4 := Tryz.sizeOf4
 v4 := Tryz.zeroValue4
 t5 := Tryz.underlying5
 a5 := Tryz.isAgg5
 z5 := Tryz.sizeOf5
 v5 := Tryz.zeroValue5
 t9 := Tryz.underlying9
 a9 := Tryz.isAgg9
 z9 := Tryz.sizeOf9
 v9 := Tryz.zeroValue9
 t22 := Tryz.underlying26
 a22 := Tryz.isAgg26
 z22 := Tryz.sizeOf26
 v22 := Tryz.zeroValue26
 t23 := Tryz.underlying26
 a23 := Tryz.isAgg26
 z23 := Tryz.sizeOf26
 v23 := Tryz.zeroValue26
 t25 := Tryz.underlying3
 a25 := Tryz.isAgg3
 z25 := Tryz.sizeOf3
 v25 := Tryz.zeroValue3
 t32 := Tryz.underlying180
 a32 := Tryz.isAgg180
 z32 := Tryz.sizeOf180
 v32 := Tryz.zeroValue180
 t35 := Tryz.underlying187
 a35 := Tryz.isAgg187
 z35 := Tryz.sizeOf187
 v35 := Tryz.zeroValue187
 t36 := Tryz.underlying188
 a36 := Tryz.isAgg188
 z36 := Tryz.sizeOf188
 v36 := Tryz.zeroValue188
 t41 := Tryz.underlying138
 a41 := Tryz.isAgg138
 z41 := Tryz.sizeOf138
 v41 := Tryz.zeroValue138
 t44 := Tryz.underlying194
 a44 := Tryz.isAgg194
 z44 := Tryz.sizeOf194
 v44 := Tryz.zeroValue194
 t46 := Tryz.underlying196
 a46 := Tryz.isAgg196
 z46 := Tryz.sizeOf196
 v46 := Tryz.zeroValue196
 t53 := Tryz.underlying200
 a53 := Tryz.isAgg200
 z53 := Tryz.sizeOf200
 v53 := Tryz.zeroValue200
 t57 := Tryz.underlying204
 a57 := Tryz.isAgg204
 z57 := Tryz.sizeOf204
 v57 := Tryz.zeroValue204
 t63 := Tryz.underlying207
 a63 := Tryz.isAgg207
 z63 := Tryz.sizeOf207
 v63 := Tryz.zeroValue207
 t64 := Tryz.underlying208
 a64 := Tryz.isAgg208
 z64 := Tryz.sizeOf208
 v64 := Tryz.zeroValue208
def leI : Int -> Int -> Bool := fun x y => decide (x ≤ y)
theorem qf4 (l : List Int) : l.flatMap qh = l.map (Value.int .i64) := by
 induction l with
 | nil => rfl
 | cons x l ih => rw [List.flatMap_cons, ih]; rfl
theorem qeh (ss : List Int) (v : Value) (base : Nat) (w : World) (h : w.ownsRow base 3 1 v ss.length (ss.flatMap qh)) (hn : ss.length ≤ 1000) (R : Ending -> World -> Prop)
 (hR : ∀ w', w'.ownsRow base 3 1 v (ss.mergeSort leI).length ((ss.mergeSort leI).flatMap qh) -> w.grownBy w' v.ownBlock -> R (.returned (.tuple #[])) w') :
 Calls Tryz.prog 99 #[v] w R := by
 rw [qf4, List.length_mergeSort] at hR;rw [qf4] at h;have h' := h;obtain ⟨h0, h1⟩ := h
 rcases h1 with ⟨hv, hl⟩ | ⟨g, cap, cur, hv, hb, hh, hnc, hcm, hcs, htk⟩
 ·subst hv;obtain rfl : ss = [] := List.eq_nil_of_length_eq_zero hl;refine (AnyM.slices_Sort_int_none qkh none 0 w).mono ?_;rintro e w' ⟨rfl, rfl⟩;exact hR _ (by simpa using h') ⟨rfl, rfl, rfl, Nat.le_refl _, fun _ _ _ => rfl⟩
 ·subst hv;rw [Nat.mul_one] at htk;refine (AnyM.slices_Sort_int qkh g 0 cap ss w (holds_of_blockI hh htk) (Array.getElem?_eq_some_iff.1 hh).1 (by omega)).mono ?_;rintro e w' ⟨rfl, n, os, rfl⟩;exact hR _ (ownsRow_sortedI (List.length_mergeSort _) hb hh hnc hcm hcs) (grownBy_sortedI _)
theorem qgv (l : List Int) : (l.mergeSort leI).Pairwise (· ≤ ·) := by
 have h := List.pairwise_mergeSort (le := leI) (fun a b c h1 h2 => by unfold leI at *; rw [decide_eq_true_eq] at *; omega) (fun a b => by unfold leI; rw [Bool.or_eq_true, decide_eq_true_eq, decide_eq_true_eq]; omega) l;exact h.imp fun {a b} h => by unfold leI at h; rwa [decide_eq_true_eq] at h
end Go.Proofs.YtdanebboiekieaaGreatDoor
namespace Go.Proofs.YtdanebboiekieaaGreatDoor
open Go.RowKit Go.Shelf
attribute [local go_sem] Oper.semAt_some
abbrev VX (x : UIns) := { v : UVal // v ∈ qn x }
def encV (x : UIns) (v : VX x) : Array Value := #[.agg #[.bool v.1.reg, .int .i64 v.1.n]]
def CKeep (g : Nat) (W W' : World) : Prop := W.heap.size ≤ W'.heap.size ∧ ∀ k o, W.heap[k]? = some o -> o.isCells = true -> k ≠ g -> W'.heap[k]? = some o
theorem CKeep.refl (g : Nat) (W : World) : CKeep g W W := ⟨Nat.le_refl _, fun _ _ h _ _ => h⟩
theorem CKeep.trans {g : Nat} {A B C : World} (h : CKeep g A B) (k : CKeep g B C) : CKeep g A C := ⟨Nat.le_trans h.1 k.1, fun j o h1 h2 h3 => k.2 j o (h.2 j o h1 h2 h3) h2 h3⟩
theorem CKeep.of_below {g : Nat} {W W' : World} (h : Below W.heap.size W W') : CKeep g W W' := ⟨h.size, fun k o h1 _ _ => (h.block _ (qa h1)).trans h1⟩
theorem CKeep.setCell {g j : Nat} (W : World) (u : Value) : CKeep g W (W.setCell ⟨g, j, none⟩ u) := ⟨by simp [World.setCell], fun k o h1 _ h3 => (Below.heap_setCell _ _ _ _ h3).trans h1⟩
theorem CKeep.putObj {g : Nat} (W : World) (l : Nat) (o o' : Obj) (h : W.heap[l]? = some o) (hc : o.isCells = false) : CKeep g W (W.putObj l o') := by
 have hg := grownBy_putObj' W l o';refine ⟨hg.size, fun k x h1 h2 _ => ?_⟩
 by_cases e : k = l
 ·subst e;rw [h] at h1;injection h1 with h1
  subst h1;rw [hc] at h2
  cases h2
 ·exact (hg.block k (qa h1) (fun e' => e (Option.some.inj e'))).trans h1
theorem CKeep.blk {g k : Nat} {W W' : World} (h : CKeep g W W') {A : Array Value} {T : TypeId} {fr : Nat × Nat} (hb : W.heap[k]? = some (.cells A T fr)) (hk : k ≠ g) : W'.heap[k]? = some (.cells A T fr) := h.2 k _ hb rfl hk
theorem CKeep.cell {g : Nat} {W W' : World} (h : CKeep g W W') {p : Addr} {u : Value} (hp : W.cell? p = some u) (hk : p.block ≠ g) : W'.cell? p = some u := by
 have hc := hp;unfold World.cell? at hp ⊢
 cases hx : W.heap[p.block]? with
 | none => rw [hx] at hp; cases hp
 | some o =>
   cases o with
   | cells A T fr => rw [h.2 _ _ hx rfl hk]; rw [hx] at hp; exact hp
   | _ => rw [hx] at hp; cases hp
structure ValsNeed (x : UIns) (va : Value) (Bx b0 g : Nat) (W : World) : Prop where
 box : W.heap[Bx]? = some (.cells #[.int .i64 x.op, .int .i64 x.dst, .bool x.a.reg, .int .i64 x.a.n, .bool x.b.reg, .int .i64 x.b.n, .int .i64 x.fn, va] 71 (0, 0))
 args : rpVal.SL W b0 x.args va
 ne : Bx ≠ g
 le : b0 ≤ g
 lt : g < W.heap.size
theorem ValsNeed.keep {x : UIns} {va : Value} {Bx b0 g : Nat} {W W' : World} (h : ValsNeed x va Bx b0 g W) (hk : CKeep g W W') : ValsNeed x va Bx b0 g W' :=
 ⟨hk.blk h.box h.ne, h.args.mono (fun p u hp hc => hk.cell hc (by have := h.le; omega)), h.ne, h.le, Nat.lt_of_lt_of_le h.lt hk.1⟩
theorem qt {β : Type} {n₀ : Nat} {J : β -> World -> Prop} (hJ : AbidesFrom n₀ J) {s : β} {W W' : World} (h : J s W) (hb : Below W.heap.size W W') : J s W' :=
 hJ s W W' none h (qw hb none) (fun r e => by cases e)
end Go.Proofs.YtdanebboiekieaaGreatDoor
