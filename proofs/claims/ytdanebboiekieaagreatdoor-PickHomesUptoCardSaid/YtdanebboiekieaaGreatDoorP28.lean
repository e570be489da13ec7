/- The walks, part 28. -/
import Derived.Test.YtdanebboiekieaaGreatDoorP27
set_option linter.unusedSimpArgs false
set_option linter.unusedVariables false
set_option maxRecDepth 100000
set_option maxHeartbeats 16000000
namespace Go.Proofs.YtdanebboiekieaaGreatDoor
open Go.RowKit
theorem q8x (pl : List Int) : ∀ m, (q1c pl (6 + m)).length ≤ m
 | 0 => by rw [q8y]; exact Nat.le_refl _
 | m + 1 => by
   have h := q8x pl m;rw [show 6 + (m + 1) = (6 + m) + 1 from rfl, q7f pl _ (by omega), List.length_append]
   split
   ·rw [List.length_singleton]; omega
   ·rw [List.length_nil]; omega
theorem qhb (pl : List Int) : (q3k pl).length ≤ 8 := q8x pl 8
theorem qhc {pl : List Int} {s : Int} (h : s ∈ q3k pl) : s ∈ pl ∧ 6 ≤ s ∧ s < 14 := by
 unfold q3k at h;rw [List.mem_filter, mem_rowX, decide_eq_true_eq, decide_eq_true_eq] at h;exact ⟨h.1.2, h.2, h.1.1.2⟩
theorem qed (pl : List Int) : (q3k pl).Pairwise (· < ·) := (q1s _ _).filter _
theorem ColIs.ok {u : Unt} {k many : Int} {pl : List Int} {fl : Int × Int} (h : ColIs u k many pl fl) : ∀ p ∈ pl, qaw many p := by
 rcases h with ⟨h1, rfl, rfl⟩ | ⟨h1, h2, rfl, rfl⟩ | ⟨j, f, n, C, A, L, rfl, hc, rfl, rfl⟩
 ·intro p hp; cases hp
 ·intro p hp; cases hp
 ·exact q56
structure Fits (many : Int) (s : Int) (S : List Int) (fl : Int × Int) : Prop where
 spills : 0 ≤ s ∧ s ≤ 101
 len : S.length ≤ 8
 rise : S.Pairwise (· < ·)
 given : ∀ x ∈ S, q2e many x = true ∧ 6 ≤ x ∧ x < 14
 bad : fl = (0, 0) ∨ (fl.1 ≠ 0 ∧ s = 0 ∧ S = [])
theorem fits {u : Unt} {k many : Int} {pl : List Int} {fl : Int × Int} (h : ColIs u k many pl fl) : Fits many (q0o pl) (q3k pl) fl where
 spills := ⟨q5h _, qa5 (by omega) (fun p hp => by have := q65 h p hp; omega)⟩
 len := qhb pl
 rise := qed pl
 given := fun s hs => by
  obtain ⟨h1, h2, h3⟩ := qhc hs;refine ⟨?_, h2, h3⟩
  rcases h.ok s h1 with h4 | h4 | h4
  ·omega
  ·exact h4
  ·omega
 bad := by
  rcases h.code with h1 | ⟨h1, h2⟩
  ·exact .inl h1
  ·right
   refine ⟨h1, ?_, ?_⟩
   ·rw [h2]; rfl
   ·rw [h2]; rfl
theorem qaz {p q : Int -> Prop} {spare : Int} (hp : p spare) (hq : q spare) (hp0 : p 0) (hq0 : q 0) : ∀ (n : Nat) (l : List Move), (∀ m ∈ l, p m.to ∧ q m.src) -> ∀ m ∈ rowN spare n l, p m.to ∧ q m.src
 | 0, l, _ => fun m hm => by cases hm
 | n + 1, l, h => by
   have hg : ∀ i, p (l.getD i Move.zero).to ∧ q (l.getD i Move.zero).src := fun i => by
    rw [List.getD_eq_getElem?_getD]
    cases hx : l[i]? with
    | none => exact ⟨hp0, hq0⟩
    | some m => exact h m (List.mem_of_getElem? hx)
   unfold rowN
   split
   ·rename_i i hi;intro m hm
    rcases List.mem_cons.1 hm with h1 | h1
    ·rw [h1]; exact hg i
    ·exact qaz hp hq hp0 hq0 n _ (fun m hm => h m ((List.eraseIdx_sublist l i).subset hm)) m h1
   ·split
    ·intro m hm; cases hm
    ·intro m hm
     rcases List.mem_cons.1 hm with h1 | h1
     ·rw [h1]; exact ⟨hp, (hg 0).2⟩
     ·refine qaz hp hq hp0 hq0 n _ (fun m hm => ?_) m h1;unfold q03 at hm;obtain ⟨o, ho, rfl⟩ := List.mem_map.1 hm;have := h o ho
      split
      ·exact ⟨this.1, hq⟩
      ·exact this
theorem qea {p q : Int -> Prop} (hp : p 15) (hq : q 15) (hp0 : p 0) (hq0 : q 0) {l : List Move} (h : ∀ m ∈ l, p m.to ∧ q m.src) : ∀ m ∈ row 15 l, p m.to ∧ q m.src := qaz hp hq hp0 hq0 _ _ fun m hm => h m (q9y hm)
theorem q73 {t f : Int} (h : t < 16 ∨ f < 16) : (q0k t f).length ≤ 1 := by
 unfold q0k
 repeat' split
 all_goals first
  | (simp; done)
  | (exfalso; omega)
theorem q7d {l : List Move} (h : ∀ m ∈ row 15 l, m.to < 16 ∨ m.src < 16) : (q0c l).length ≤ 2 * l.length + 1 := by
 refine Nat.le_trans ?_ (q8u l);unfold q0c;generalize row 15 l = L at h
 induction L with
 | nil => exact Nat.le_refl _
 | cons m L ih =>
   rw [List.flatMap_cons, List.length_append, List.length_cons];have := q73 (h m (by simp));have := ih fun m hm => h m (by simp [hm]);omega
theorem qeo (pl : List Int) (xs : List UVal) : ∀ k, (argMv pl xs k).length + (argSt xs k).length ≤ k
 | 0 => Nat.le_refl _
 | k + 1 => by
   have := qeo pl xs k;rw [argMv, argSt]
   cases hx : xs[k]? with
   | none => simp; omega
   | some v => cases hr : v.reg <;> simp [hr] <;> omega
theorem qi5 (pl : List Int) (x : UIns) (h : x.args.length ≤ 6) : (callL pl x).length ≤ 15 := by
 unfold callL;have h1 := qeo pl x.args x.args.length
 have h2 : (q0c (argMv pl x.args x.args.length)).length ≤ 2 * (argMv pl x.args x.args.length).length + 1 := q7d fun m hm => by
  have := (qea (p := fun t => t < 16) (q := fun _ => True) (by decide) trivial (by decide) trivial (fun m hm => ⟨by have := (q62 pl x.args _ m hm).2; omega, trivial⟩) m hm).1;exact .inl this
 have h3 : (if 0 ≤ x.dst then q0k (plAt pl x.dst) 0 else []).length ≤ 1 := by
  split
  ·exact q73 (.inr (by decide))
  ·simp
 simp only [List.length_append, List.length_singleton];omega
theorem qfj (pl : List Int) (x : UIns) (h : x.args.length ≤ 6) : (insL pl x).length ≤ 15 := by
 have ha := q0y pl x.a 14;have hb := q0y pl x.b 15;have ht := fun m => qkl pl m x.dst;have hc := qi5 pl x h;have hm := q59 (plAt pl x.dst) (plAt pl x.a.n);unfold insL
 split
 ·split
  ·omega
  ·exact Nat.le_trans (ht _) (by decide)
 split
 ·rw [List.length_append]; have := ht ⟨3, 0, (heldL pl x.a 14).2, 0, 0⟩; omega
 split
 ·rw [List.length_append]; have := ht ⟨4, 0, (heldL pl x.a 14).2, 0, 0⟩; omega
 split
 ·rw [List.length_append]; have := ht ⟨33, 0, (heldL pl x.a 14).2, 0, 0⟩; omega
 split
 ·simp only [List.length_append, List.length_singleton]; omega
 split
 ·exact hc
 split
 ·exact Nat.le_trans (ht _) (by decide)
 split
 ·simp only [List.length_append, List.length_singleton]; omega
 ·unfold twoL;rw [List.length_append]
  split
  ·have := ht ⟨x.op + 17, 0, (heldL pl x.a 14).2, 0, x.b.n⟩; omega
  ·rw [List.length_append]; have := ht ⟨x.op + 3, 0, (heldL pl x.a 14).2, (heldL pl x.b 15).2, 0⟩; omega
theorem qc9 (t nx : Int) : (jumpL t nx).length ≤ 1 := by
 unfold jumpL
 split <;> simp
theorem qla (pl : List Int) (s : Int) (S : List Int) (hS : S.length ≤ 8) (e : UEnd) (nx : Int) : (endL pl s S e nx).length ≤ 10 := by
 have hh := q0y pl e.on 14;have hj0 := qc9 (e.to.getD 0 0) nx;have hj1 := qc9 (e.to.getD 1 0) nx;unfold endL
 split
 ·simp only [List.length_append, q2k, List.length_singleton]
  have : (if e.on.reg = true then q0k 0 (plAt pl e.on.n) else [⟨1, 0, 0, 0, e.on.n⟩]).length ≤ 1 := by
   split
   ·exact q73 (.inl (by decide))
   ·simp
  omega
 split
 ·omega
 split
 ·split <;> omega
 split
 ·simp only [List.length_append, List.length_singleton]; omega
 ·simp only [List.length_append, List.length_singleton]; omega
def totL (bs : List UBlk) : Nat := (bs.map fun b => b.list.length).sum
theorem q8h {α β : Type} {f : α -> List β} {c : Nat} {l : List α} (h : ∀ x ∈ l, (f x).length ≤ c) : (l.flatMap f).length ≤ c * l.length := by
 induction l with
 | nil => simp
 | cons x l ih =>
   rw [List.flatMap_cons, List.length_append, List.length_cons, Nat.mul_succ];have := h x (by simp);have := ih fun x hx => h x (by simp [hx]);omega
theorem qd4 {bs : List UBlk} {k : Nat} (h : k < bs.length) : totL (bs.take (k + 1)) = totL (bs.take k) + bs[k].list.length := by
 unfold totL;rw [List.take_succ_eq_append_getElem h, List.map_append, List.sum_append];simp
theorem qnr {bs : List UBlk} (k : Nat) : totL (bs.take k) ≤ totL bs := by
 unfold totL
 conv => rhs; rw [<- List.take_append_drop k bs]
 rw [List.map_append, List.sum_append];omega
theorem q89 {pl : List Int} {s : Int} {S : List Int} (hS : S.length ≤ 8) {bs : List UBlk} (hx : ∀ b ∈ bs, ∀ x ∈ b.list, x.args.length ≤ 6) : ∀ k, k ≤ bs.length -> (blksL pl s S bs k).length ≤ 15 * totL (bs.take k) + 10 * k
 | 0, _ => Nat.zero_le _
 | k + 1, h => by
   have ih := q89 (pl := pl) (s := s) hS hx k (by omega);rw [q37 h, qd4 h, List.length_append];have h1 : (bs[k].list.flatMap (insL pl)).length ≤ 15 * bs[k].list.length := q8h fun x hm => qfj pl x (hx _ (List.getElem_mem h) x hm);have h2 := qla pl s S hS bs[k].end_ ((k : Int) + 1);unfold blkL;rw [List.length_append];omega
theorem insP {u : Unt} (hok : qo u = (0, 0)) {n : Nat} {pl : List Int} (hl : pl.length = n) {x : UIns} (hx : InsOk u (n : Int) x) : InsP pl x ∧ x.args.length ≤ 6 := by
 have h6 : x.args.length ≤ 6 := by
  by_cases h : x.op = 20
  ·obtain ⟨g, hg, _, hl⟩ := hx.call h;have := (funOk hok hg).params;omega
  ·rw [(hx.noArgs h).1];exact Nat.zero_le _
 subst hl;refine ⟨⟨hx.a, hx.b, fun v hv => hx.args v hv, by omega, fun h1 h2 h3 => ?_, ?_, by have := hx.op; omega⟩, h6⟩
 ·refine hx.opDst ?_ h2;have := hx.op;unfold opDst;simp;omega
 ·have := hx.dst;omega
theorem qcf {l : List UBlk} (h : ∀ b ∈ l, b.phis.length ≤ 1048576 ∧ b.list.length ≤ 1048576) (hn : l.length ≤ 40) : ∀ k, k ≤ l.length -> (totL (l.take k) : Int) ≤ manyW l k ∧ manyW l k ≤ (k : Int) * 2097152
 | 0, _ => ⟨Int.le_refl _, Int.le_refl _⟩
 | k + 1, hk => by
   obtain ⟨h1, h2⟩ := qcf h hn k (by omega);have hk' : k < l.length := hk;obtain ⟨hb1, hb2⟩ := h _ (List.getElem_mem hk');rw [manyW, List.getElem?_eq_getElem hk', qd4 hk'];dsimp only;unfold wrap64;omega
theorem qj2 {u : Unt} (hN : ∀ f ∈ u.funcs, ∀ b ∈ f.blocks, b.phis.length ≤ 1048576 ∧ b.list.length ≤ 1048576) (h : qo u = (0, 0)) : ∀ f ∈ u.funcs, totL f.blocks ≤ 300 := by
 intro f hf;obtain ⟨i, hi, hfi⟩ := List.getElem_of_mem hf;have hh := (q4p h).2.2.1;rw [fst0_zero] at hh
 have h2 := hh (headF (nameG u i) f) (by
  unfold q2f;rw [List.mem_mapIdx];exact ⟨i, hi, by rw [hfi]⟩)
 have h3 : (f.blocks.length : Int) ≤ 40 ∧ manyW f.blocks f.blocks.length ≤ 300 := by
  unfold headF at h2
  split at h2
  ·simp at h2
  split at h2
  ·simp at h2
  split at h2
  ·simp at h2
  split at h2
  ·simp at h2
  ·rename_i h4;omega
 have := (qcf (hN f hf) (by omega) f.blocks.length (Nat.le_refl _)).1;rw [List.take_length] at this;omega
theorem q7q {t nx : Int} {nb : Nat} (h : 1 ≤ t ∧ t < (nb : Int)) : ∀ m ∈ jumpL t nx, 0 ≤ m.n ∧ m.n < (nb : Int) := by
 intro m hm;unfold jumpL at hm
 split at hm
 ·cases hm
 ·rw [List.mem_singleton] at hm;rw [hm];dsimp only;omega
theorem q3r {regs : Int} {nb : Nat} {e : UEnd} (h : EndOk regs nb e) {i : Nat} (hi : (i : Int) + 1 < e.kind) : i < e.to.length ∧ 1 ≤ e.to.getD i 0 ∧ e.to.getD i 0 < (nb : Int) := by
 have hl := h.len;have hlt : i < e.to.length := by omega
 rw [List.getD_eq_getElem?_getD, List.getElem?_eq_getElem hlt];exact ⟨hlt, h.tos _ (List.getElem_mem hlt)⟩
theorem qlo (s : Int) (S : List Int) : ∀ m ∈ left s S ++ [q1n], isJ m = false := by
 intro m hm
 rcases List.mem_append.1 hm with h | h
 ·obtain ⟨x, _, rfl⟩ := List.mem_map.1 h;rfl
 ·rw [List.mem_singleton] at h;rw [h];rfl
theorem qmy {pl : List Int} {s : Int} {S : List Int} {regs : Int} {nb : Nat} {e : UEnd} {nx : Int} (h : EndOk regs nb e) : ∀ m ∈ endL pl s S e nx, isJ m = true -> 0 ≤ m.n ∧ m.n < (nb : Int) := by
 have hk := h.kind;intro m hm hj
 have no : ∀ {l : List Mac}, (∀ m ∈ l, isJ m = false) -> m ∈ l -> 0 ≤ m.n ∧ m.n < (nb : Int) := fun hl hx => by
  rw [hl m hx] at hj
  cases hj
 have on : ∀ {t : Int} {o a : Int}, (1 ≤ t ∧ t < (nb : Int)) -> m ∈ ([⟨o, 0, a, 0, t⟩] : List Mac) -> 0 ≤ m.n ∧ m.n < (nb : Int) := fun ht hx => by
  rw [List.mem_singleton] at hx;rw [hx];dsimp only;omega
 unfold endL at hm
 split at hm
 ·rcases List.mem_append.1 hm with h1 | h1
  ·split at h1
   ·exact no (q5a _ _) h1
   ·rw [List.mem_singleton] at h1;rw [h1] at hj
    cases hj
  ·exact no (qlo s S) h1
 split at hm
 ·exact q7q (q3r h (i := 0) (by omega)).2 m hm
 have h0 := (q3r h (i := 0) (by omega)).2;have h1 := (q3r h (i := 1) (by omega)).2
 split at hm
 ·split at hm
  ·exact q7q h1 m hm
  ·exact q7q h0 m hm
 split at hm
 ·rcases List.mem_append.1 hm with h2 | h2
  ·exact no (q1m _ _ _) h2
  ·exact on h1 h2
 ·rcases List.mem_append.1 hm with h2 | h2
  ·rcases List.mem_append.1 h2 with h3 | h3
   ·exact no (q1m _ _ _) h3
   ·exact on h0 h3
  ·exact q7q h1 m h2
theorem qet {u : Unt} {regs : Int} {pl : List Int} {s : Int} {S : List Int} {bs : List UBlk} (he : ∀ b ∈ bs, EndOk regs bs.length b.end_) (hx : ∀ b ∈ bs, ∀ x ∈ b.list, InsOk u regs x) : ∀ k, k ≤ bs.length -> ∀ m ∈ blksL pl s S bs k, isJ m = true -> 0 ≤ m.n ∧ m.n < (bs.length : Int)
 | 0, _ => fun m hm => by cases hm
 | k + 1, h => by
   intro m hm hj;rw [q37 h] at hm
   rcases List.mem_append.1 hm with h1 | h1
   ·exact qet he hx k (by omega) m h1 hj
   ·rcases List.mem_append.1 h1 with h2 | h2
    ·obtain ⟨x, hx1, hx2⟩ := List.mem_flatMap.1 h2;rw [qli (hx _ (List.getElem_mem h) x hx1) m hx2] at hj
     cases hj
    ·exact qmy (he _ (List.getElem_mem h)) m h2 hj
theorem qm2 (pl : List Int) (s : Int) (S : List Int) (p : Int) (lv : List Int) : ∀ m ∈ preL pl s S p lv, isJ m = false := by
 intro m hm;unfold preL at hm
 rcases List.mem_append.1 hm with h | h
 ·rcases List.mem_append.1 h with h | h
  ·obtain ⟨x, _, rfl⟩ := List.mem_map.1 h;rfl
  ·exact q7c _ m h
 ·obtain ⟨x, _, rfl⟩ := List.mem_map.1 h;rfl
theorem qg7 {pl : List Int} {p : Int} {lv : List Int} (hs : lv.Nodup) (hap : ∀ a ∈ lv, ∀ b ∈ lv, a ≠ b -> plAt pl a ≠ plAt pl b) (h15 : ∀ a ∈ lv, plAt pl a ≠ 15) : Fine 15 (q3t (begMv pl p lv)) := by
 refine q8e ⟨?_, fun m hm => ?_⟩
 ·unfold begMv;rw [List.map_map, List.Nodup, List.pairwise_map];have hf : (lv.filter fun r => decide (r < p)).Nodup := List.Nodup.sublist List.filter_sublist hs;refine List.Pairwise.imp_of_mem (fun {a b} ha hb hab => ?_) hf;exact hap a (List.mem_filter.1 ha).1 b (List.mem_filter.1 hb).1 hab
 ·obtain ⟨r, hr, rfl⟩ := List.mem_map.1 hm;exact h15 r (List.mem_filter.1 hr).1
theorem ColOk.lives {u : Unt} {k : Nat} {f : UFun} {n : Nat} {many : Int} {C : Int -> Int -> Bool} {A : Int -> Bool} {L : Nat -> Nat -> Int -> Bool} (h : ColOk u k f n many C A L) {p : Int} :
 Fine 15 (q3t (begMv (qy f n many C A (L 0 0)) p (rowX (L 0 0) n))) ∧ ∀ a ∈ rowX (L 0 0) n, ∀ b ∈ rowX (L 0 0) n, a ≠ b -> plAt (qy f n many C A (L 0 0)) a ≠ plAt (qy f n many C A (L 0 0)) b := by
 have hn : n ≤ 100 := by have := (funOk h.ok h.fn).regs.2; have := h.regs; omega
 have hc := q78 (f := f) (many := many) (A := A) (L := L 0 0) hn (fun a b hab => (h.hC b a).2 (q9o ((h.hC a b).1 hab)))
 have hw : ∀ a ∈ rowX (L 0 0) n, a ∈ wantL f n (L 0 0) := fun a ha => by
  obtain ⟨h1, h2⟩ := mem_rowX.1 ha;exact mem_rowX.2 ⟨h1, by simp [h2]⟩
 have hap : ∀ a ∈ rowX (L 0 0) n, ∀ b ∈ rowX (L 0 0) n, a ≠ b -> plAt (qy f n many C A (L 0 0)) a ≠ plAt (qy f n many C A (L 0 0)) b := fun a ha b hb hab => by
  obtain ⟨⟨a0, _⟩, a1⟩ := mem_rowX.1 ha;obtain ⟨⟨b0, _⟩, b1⟩ := mem_rowX.1 hb;exact hc.1 a (hw a ha) b (hw b hb) hab ((h.hC a b).2 ⟨a0, b0, hab, .inl ⟨(h.hL _ _ _).1 a1, (h.hL _ _ _).1 b1⟩⟩)
 refine ⟨qg7 ((q1s _ _).imp fun h e => by omega) hap fun a ha => ?_, hap⟩;obtain ⟨⟨a0, a1⟩, _⟩ := mem_rowX.1 ha
 rcases q56 _ (qau (pl := qy f n many C A (L 0 0)) a0 (by rw [q3c]; exact a1)) with h1 | h1 | h1
 ·rw [h1]; decide
 ·have := q69 h1 h.many;omega
 ·omega
theorem q7p {t nx : Int} (h : t ≠ nx) : jumpL t nx = [⟨37, 0, 0, 0, t⟩] := if_neg h
theorem qbs {regs : Int} {nb : Nat} {pl : List Int} {s : Int} {S : List Int} {e : UEnd} (h : EndOk regs nb e) : ∃ l m, endL pl s S e (nb : Int) = l ++ [m] ∧ (m.op = 37 ∨ m.op = 45) := by
 have hk := h.kind;unfold endL
 split
 ·exact ⟨_, _, (List.append_assoc _ _ _).symm, .inr rfl⟩
 have h0 := (q3r h (i := 0) (by omega)).2
 split
 ·exact ⟨[], _, q7p (by omega), .inl rfl⟩
 have h1 := (q3r h (i := 1) (by omega)).2
 split
 ·split
  ·exact ⟨[], _, q7p (by omega), .inl rfl⟩
  ·exact ⟨[], _, q7p (by omega), .inl rfl⟩
 rw [if_neg (by omega), q7p (t := e.to.getD 1 0) (by omega)];exact ⟨_, _, rfl, .inl rfl⟩
theorem qg1 (K : PiK) (code : List Mac) (vc : Value) (pl : List Int) (s : Int) (S : List Int) (e : UEnd) (nx : Int) (vt : Value) (w : World) {nb : Nat} (h : PiS K code vc w) (hP : PiP K pl w) (hF : PiF K s S w) (hT : rpInt.SL w K.PB e.to vt) (he : EndOk (pl.length : Int) nb e) (hc : code.length ≤ 80000) (R : Ending -> World -> Prop)
 (hR : ∀ w' vc', PiS K (code ++ endL pl s S e nx) vc' w' -> PiG K w vc w' vc' -> R (.returned (.tuple #[])) w') :
 Calls Tryz.prog 29 #[.pointer (some ⟨K.PB, 0, none⟩), .agg #[.int .i64 e.kind, .bool e.on.reg, .int .i64 e.on.n, vt], .int .i64 nx] w R := by
 have hk := he.kind;have hl := he.len;unfold endL at hR
 by_cases k1 : e.kind = 1
 ·rw [if_pos k1] at hR;exact qn2 K code vc pl s S e nx vt w h hP hF k1 he.on hc R hR
 rw [if_neg k1] at hR
 by_cases k2 : e.kind = 2
 ·rw [if_pos k2] at hR;exact qn3 K code vc e nx vt w h hT k2 (by omega) hc R hR
 rw [if_neg k2] at hR;have k3 : e.kind = 3 := by omega
 cases hr : e.on.reg with
 | false =>
   rw [if_pos hr] at hR
   by_cases hz : e.on.n = 0
   ·rw [if_pos hz] at hR;have := qn0 K code vc e nx vt w h hT k3 hr hz (by omega) hc R hR
    rwa [hr] at this
   ·rw [if_neg hz] at hR;have := qn1 K code vc e nx vt w h hT k3 hr hz (by omega) hc R hR
    rwa [hr] at this
 | true =>
   rw [if_neg (by rw [hr]; decide)] at hR
   by_cases hq : e.to.getD 0 0 = nx
   ·rw [if_pos hq] at hR;have := qmz K code vc pl e nx vt w h hP hT k3 hr (he.on hr) (by omega) hq hc R hR
    rwa [hr] at this
   ·rw [if_neg hq] at hR;have := qnu K code vc pl e nx vt w h hP hT k3 hr (he.on hr) (by omega) hq hc R hR
    rwa [hr] at this
theorem qm9 {S : List Bool} {n : Nat} {X : Int -> Bool} (hS : S.length = n) (h : ∀ r, r < n -> (bAt S r = true ↔ X (r : Int) = true)) : setL S = rowX X n := by
 subst hS
 have : ∀ k, k ≤ S.length -> setTo S k = rowX X k := fun k => by
  induction k with
  | zero => intro _; rfl
  | succ k ih =>
    intro hk;rw [qa3, q8t, ih (by omega)]
    congr 1
    have := h k hk
    by_cases e : bAt S k = true
    ·rw [if_pos e, if_pos (this.1 e)]
    ·rw [if_neg e, if_neg (fun h => e (this.2 h))]
 exact this _ (Nat.le_refl _)
def PiK.w8 (K : PiK) (v : Value) : PiK := ⟨K.PB, K.base, K.a0, K.a1, K.a2, K.a3, K.a4, K.a5, K.a6, v, K.hlt⟩
structure PiL (K : PiK) (code : List Mac) (bg : List Int) (w0 w : World) (vc v8 : Value) : Prop where
 st : PiS (K.w8 v8) code vc w
 bo : w.ownsRow K.base 3 1 v8 bg.length (bg.flatMap qh)
 ap : ∀ k, v8.ownBlock = some k -> vc.ownBlock ≠ some k
 be : Below K.PB w0 w
theorem PiL.step {K : PiK} {code code' : List Mac} {bg : List Int} {w0 w w' : World} {vc vc' v8 : Value} (h : PiL K code bg w0 w vc v8) (hs : PiS (K.w8 v8) code' vc' w') (hg : PiG (K.w8 v8) w vc w' vc') : PiL K code' bg w0 w' vc' v8 where
 st := hs
 bo := q8o h.bo hg.grew fun k hk e => by
  have h1 := (h.bo.lt k hk).1;have := K.hlt
  rcases e with e | e
  ·have : k = K.PB := e;omega
  ·exact h.ap k hk e
 ap := fun k hk e => by
  rcases hg.came k e with h1 | h1
  ·exact h.ap k hk h1
  ·have := (h.bo.lt k hk).2;omega
 be := h.be.trans (hg.below h.st (Nat.le_refl _))
theorem PiL.below {K : PiK} {code : List Mac} {bg : List Int} {w0 w w' : World} {vc v8 : Value} (h : PiL K code bg w0 w vc v8) (hb : Below w.heap.size w w') : PiL K code bg w0 w' vc v8 := h.step (h.st.below hb) (PiG.of_below hb)
theorem PiL.put8 {K : PiK} {code : List Mac} {bg bg' : List Int} {w0 w w' : World} {vc v8 v8' : Value} (h : PiL K code bg w0 w vc v8) (hg : w.grownBy w' v8.ownBlock) (ho : w'.ownsRow K.base 3 1 v8' bg'.length (bg'.flatMap qh)) (hc : ∀ k, v8'.ownBlock = some k -> v8.ownBlock = some k ∨ w.heap.size ≤ k) :
 PiL K code bg' w0 (w'.setCell ⟨K.PB, 8, none⟩ v8') vc v8' := by
 have hlt := K.hlt;have hP : w'.heap[K.PB]? = some (.cells #[K.a0, K.a1, K.a2, K.a3, K.a4, K.a5, K.a6, vc, v8] 58 (0, 0)) := (hg.block K.PB (qa h.st.blk) (fun e => by have := (h.bo.lt _ e.symm).1; omega)).trans h.st.blk;have hvc : ∀ k, vc.ownBlock = some k -> K.base ≤ k ∧ k < w.heap.size := fun k e => h.st.own.lt k e;have hG := Grew.of_grown hg;refine ⟨⟨by show (w'.setCell ⟨K.PB, 8, none⟩ v8').heap[K.PB]? = _; rw [q0h hP]; rfl, ?_, ?_⟩, ql ho (fun e => by have : K.base ≤ K.PB := (ho.lt _ e).1; omega) _, fun k hk e => ?_, ?_⟩
 ·refine ql (q8o h.st.own hG fun k hk e => h.ap k e hk) (fun e => by have : K.base ≤ K.PB := (hvc _ e).1; omega) _
 ·exact Nat.le_trans h.st.base (Nat.le_trans hG.size (by simp [World.setCell]))
 ·rcases hc k hk with h1 | h1
  ·exact h.ap k h1 e
  ·have := (hvc k e).2;omega
 ·refine h.be.trans (Below.setCell (p := ⟨K.PB, 8, none⟩) ((Below.refl K.PB w).grown hg (by have := qa h.st.blk; exact Nat.le_of_lt this) (fun j e => by have := (h.bo.lt j e).1; omega)) (Nat.le_refl _) _)
def PickIs (u : Unt) (k many : Int) (xs : List Mac) (fl : Int × Int) : Prop :=
 (ColIs u k many [] fl ∧ fl.1 ≠ 0 ∧ xs = []) ∨
 (∃ j f n C A L, k = ((j : Nat) : Int) ∧ ColOk u j f n many C A L ∧ fl = (0, 0) ∧ xs = pickL (qy f n many C A (L 0 0)) (q0o (qy f n many C A (L 0 0))) (q3k (qy f n many C A (L 0 0))) f.params (rowX (L 0 0) n) f.blocks)
theorem qcn (u : Unt) (k many : Int) : ∃ xs fl, PickIs u k many xs fl := by
 obtain ⟨pl, fl, h⟩ := ql7 u k many
 rcases h.code with h0 | ⟨h0, hp⟩
 ·rcases h with ⟨h1, h2, h3⟩ | ⟨h1, h2, h3, h4⟩ | ⟨j, f, n, C, A, L, h1, h2, h3, h4⟩
  ·rw [h0] at h3;exact absurd h3.symm h1
  ·rw [h0] at h4
   cases h4
  ·exact ⟨_, _, .inr ⟨j, f, n, C, A, L, h1, h2, h4, rfl⟩⟩
 ·subst hp;exact ⟨_, _, .inl ⟨h, h0, rfl⟩⟩
def putN (l : List Mac) (k : Nat) (n : Int) : List Mac := l.set k ⟨(l.getD k ⟨0, 0, 0, 0, 0⟩).op, (l.getD k ⟨0, 0, 0, 0, 0⟩).dst, (l.getD k ⟨0, 0, 0, 0, 0⟩).a, (l.getD k ⟨0, 0, 0, 0, 0⟩).b, n⟩
theorem qay (l : List Mac) (k : Nat) (n : Int) : (putN l k n).length = l.length := by unfold putN; rw [List.length_set]
theorem qbu (n : Int) : ∀ (l : List Mac) (k : Nat), k < l.length -> (l.flatMap Mac.cells).take (k * 5 + 4) ++ [(Value.int .i64 n)] ++ (l.flatMap Mac.cells).drop (k * 5 + 4 + 1) = (putN l k n).flatMap Mac.cells
 | [], k, h => by simp at h
 | m :: l, 0, _ => by simp [putN, Mac.cells]
 | m :: l, k + 1, h => by
   have ih := qbu n l k (by simpa using h);have e : putN (m :: l) (k + 1) n = m :: putN l k n := by simp [putN]
   rw [e, List.flatMap_cons, List.flatMap_cons, <- ih, show (k + 1) * 5 + 4 + 1 = (Mac.cells m).length + (k * 5 + 4 + 1) from by simp [Mac.cells]; omega, show (k + 1) * 5 + 4 = (Mac.cells m).length + (k * 5 + 4) from by simp [Mac.cells]; omega, List.take_length_add_append, List.drop_length_add_append];simp
theorem qlx {w : World} {base g cap k N : Nat} {l : List Mac} (h : w.ownsRow base 45 5 (.slice (some ⟨g, 0, none⟩) N cap) N (l.flatMap Mac.cells)) (hN : l.length = N) (hk : k < N) (n : Int) :
 (w.setCell ⟨g, k * 5 + 4, none⟩ (.int .i64 n)).ownsRow base 45 5 (.slice (some ⟨g, 0, none⟩) N cap) N ((putN l k n).flatMap Mac.cells) := by
 subst hN
 have := q1x (vs := [.int .i64 n]) (o := k * 5 + 4) h (by simp; omega) (Nat.le_refl _) ((putN l k n).flatMap Mac.cells) (by
  show ((l.flatMap Mac.cells).take (k * 5 + 4) ++ [Value.int .i64 n] ++ (l.flatMap Mac.cells).drop (k * 5 + 4 + 1)).take (l.length * 5) = _;rw [qbu n l k hk, List.take_of_length_le];rw [q0e Mac.cells 5 (fun _ => rfl), qay];exact Nat.le_refl _)
 exact this
structure PiE (K : PiK) (l : List Mac) (bg : List Int) (w0 w : World) (g N cap : Nat) (v8 : Value) : Prop where
 pl : PiL K l bg w0 w (.slice (some ⟨g, 0, none⟩) N cap) v8
 len : l.length = N
theorem PiE.put {K : PiK} {l : List Mac} {bg : List Int} {w0 w : World} {g N cap : Nat} {v8 : Value} (h : PiE K l bg w0 w g N cap v8) {k : Nat} (hk : k < N) (n : Int) : PiE K (putN l k n) bg w0 (w.setCell ⟨g, k * 5 + 4, none⟩ (.int .i64 n)) g N cap v8 := by
 have hlt := K.hlt;have ho := h.pl.st.own;rw [h.len] at ho;have hg : K.base ≤ g := (ho.lt g rfl).1;have hgP : K.PB ≠ g := by omega
 refine ⟨⟨⟨(Below.heap_setCell w ⟨g, k * 5 + 4, none⟩ _ K.PB hgP).trans h.pl.st.blk, ?_, Nat.le_trans h.pl.st.base (by simp [World.setCell])⟩, ql h.pl.bo (fun e => h.pl.ap g e rfl) _, h.pl.ap, h.pl.be.setCell (p := ⟨g, k * 5 + 4, none⟩) (show K.PB ≤ g by omega) _⟩, by rw [qay]; exact h.len⟩;rw [qay, h.len];exact qlx ho h.len hk n
theorem PiE.below {K : PiK} {l : List Mac} {bg : List Int} {w0 w w' : World} {g N cap : Nat} {v8 : Value} (h : PiE K l bg w0 w g N cap v8) (hb : Below w.heap.size w w') : PiE K l bg w0 w' g N cap v8 := ⟨h.pl.below hb, h.len⟩
theorem PiE.at_ {K : PiK} {l : List Mac} {bg : List Int} {w0 w : World} {g N cap : Nat} {v8 : Value} (h : PiE K l bg w0 w g N cap v8) {k : Nat} (hk : k < l.length) :
 w.cell? ⟨g, k * 5, none⟩ = some (.int .i64 l[k].op) ∧ w.cell? ⟨g, k * 5 + 4, none⟩ = some (.int .i64 l[k].n) ∧ w.frozen? ⟨g, k * 5 + 4, none⟩ = false ∧ g < w.heap.size := by
 have hs := q61 h.pl.st.own (Nat.le_refl _);obtain ⟨b, off, cs, hA, hb, hr, hcs⟩ := Rp.SL.at_ hs (List.getElem?_eq_getElem hk);injection hA with hA
 injection hA with e1 e2
 subst e1 e2;rw [rpMac_rep] at hr;subst hr;have h0 := hcs 0 _ rfl;have h4 := hcs 4 _ rfl;rw [show (0 : Nat) + k * rpMac.size + 0 = k * 5 from by show 0 + k * 5 + 0 = k * 5; omega] at h0;rw [show (0 : Nat) + k * rpMac.size + 4 = k * 5 + 4 from by show 0 + k * 5 + 4 = k * 5 + 4; omega] at h4;refine ⟨h0, h4, ?_, hb⟩;have ho := h.pl.st.own
 rcases ho.2 with ⟨h1, _⟩ | ⟨g', cap', cur, h1, h2, h3, h5⟩
 ·cases h1
 ·injection h1 with e1
  injection e1 with e1
  injection e1 with e1
  subst e1;simp [World.frozen?, h3]
def fixTo (B : List Int) (c : List Mac) (i : Nat) : List Mac := (c.take i).map (fixM B) ++ c.drop i
theorem q8f (B : List Int) (c : List Mac) (i : Nat) : (fixTo B c i).length = c.length := by
 unfold fixTo;rw [List.length_append, List.length_map, List.length_take, List.length_drop];omega
theorem qai {B : List Int} {c : List Mac} {i : Nat} (h : i < c.length) : (fixTo B c i)[i]? = some c[i] := by
 unfold fixTo;rw [List.getElem?_append_right (by rw [List.length_map, List.length_take]; omega), List.length_map, List.length_take, List.getElem?_drop, show i + (i - min i c.length) = i from by omega];exact List.getElem?_eq_getElem h
theorem qgi (B : List Int) (c : List Mac) : fixTo B c 0 = c := by simp [fixTo]
theorem qie (B : List Int) (c : List Mac) : fixTo B c c.length = c.map (fixM B) := by simp [fixTo]
theorem q9s {B : List Int} {c : List Mac} {i : Nat} (h : i < c.length) : fixTo B c (i + 1) = (fixTo B c i).set i (fixM B c[i]) := by
 unfold fixTo;have h1 : ((c.take i).map (fixM B)).length = i := by rw [List.length_map, List.length_take]; omega
 rw [List.set_append_right (h := by omega), h1, Nat.sub_self, List.take_succ_eq_append_getElem h, List.map_append, List.drop_eq_getElem_cons h, List.set_cons_zero];simp
theorem qle {B : List Int} {c : List Mac} {i : Nat} (h : i < c.length) (hj : isJ c[i] = false) : fixTo B c (i + 1) = fixTo B c i := by
 have e : fixM B c[i] = c[i] := by unfold fixM; rw [if_neg (by rw [hj]; decide)]
 rw [q9s h, e];apply List.ext_getElem?;intro k;rw [List.getElem?_set]
 by_cases hk : i = k
 ·subst hk;rw [if_pos rfl, if_pos (by rw [q8f]; exact h), qai h]
 ·rw [if_neg hk]
theorem qif {B : List Int} {c : List Mac} {i : Nat} (h : i < c.length) (hj : isJ c[i] = true) : fixTo B c (i + 1) = putN (fixTo B c i) i (B.getD c[i].n.toNat 0) := by
 rw [q9s h];unfold putN;have e : (fixTo B c i).getD i ⟨0, 0, 0, 0, 0⟩ = c[i] := by rw [List.getD_eq_getElem?_getD, qai h]; rfl
 rw [e];unfold fixM;rw [if_pos hj]
theorem qj0 (op : Int) (m : Mac) (h : m.op = op) : decide (op ∈ ([37, 38, 39] : List Int)) = isJ m := by
 unfold isJ;rw [h]
 congr 1
 simp only [List.mem_cons, List.not_mem_nil, or_false, eq_iff_iff];omega
end Go.Proofs.YtdanebboiekieaaGreatDoor
