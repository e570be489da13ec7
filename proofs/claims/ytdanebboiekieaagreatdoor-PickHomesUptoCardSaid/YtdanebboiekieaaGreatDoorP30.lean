/- The walks, part 30. -/
import Derived.Test.YtdanebboiekieaaGreatDoorP29
set_option linter.unusedSimpArgs false
set_option linter.unusedVariables false
set_option maxRecDepth 100000
set_option maxHeartbeats 16000000
namespace Go.Proofs.YtdanebboiekieaaGreatDoor
open Go.RowKit
theorem qg0 {many nb : Int} {s : Int} {S : List Int} {fl : Int × Int} (hF : Fits many s S fl) (hs : s + S.length ≤ 120) (F : Int -> Int -> Mac) (hm : ∀ r w, RegH many r -> 0 ≤ w ∧ w < 120 -> HomeM many nb (F r w)) : ∀ m ∈ S.zipIdx.map (fun p => F p.1 (s + (p.2 : Int))), HomeM many nb m := by
 intro m h;obtain ⟨⟨r, i⟩, hp, rfl⟩ := List.mem_map.1 h;have h1 := List.mem_zipIdx hp;have h2 := hF.spills
 have hr : r ∈ S := by
  rw [h1.2.2];exact List.getElem_mem _
 have h3 := hF.given r hr;exact hm _ _ ⟨by omega, by omega, fun _ _ => h3.1⟩ (by dsimp only; omega)
theorem qi8 {many : Int} {u : Unt} {regs : Int} {nb : Nat} {pl : List Int} {s : Int} {S : List Int} {fl : Int × Int} {e : UEnd} {nx : Int} (h : EndOk regs nb e) (hF : Fits many s S fl) (hs : s + S.length ≤ 120) (hp : e.on.reg = true -> PlH many (plAt pl e.on.n)) : ∀ m ∈ endL pl s S e nx, HomeM many nb m := by
 have hk := h.kind;have hh := q70 (many := many) (nb := nb) (h := 14) hp (by decide)
 have hj : ∀ {t}, (1 ≤ t ∧ t < (nb : Int)) -> ∀ m ∈ jumpL t nx, HomeM many nb m := fun ht => by
  unfold jumpL
  split
  ·exact q6b
  ·exact q2w (qiq (by omega))
 unfold endL
 split
 ·refine q0f ?_ (q0f (qg0 hF hs (fun r w => ⟨35, r, 0, 0, w⟩) fun r w h1 h2 => q7m h1 h2) (q2w (q1f ⟨false, false, false, 0⟩ rfl rfl rfl rfl rfl (.inl ⟨rfl, rfl⟩))))
  split
  ·rename_i hr;exact q4f (.inl ⟨q5s (by decide) (by decide), by decide⟩) (hp hr)
  ·exact q2w (q6c (q5s (by decide) (by decide)))
 split
 ·exact hj (q3r h (i := 0) (by omega)).2
 have h0 := (q3r h (i := 0) (by omega)).2;have h1 := (q3r h (i := 1) (by omega)).2
 split
 ·split
  ·exact hj h1
  ·exact hj h0
 split
 ·exact q0f hh.1 (q2w (qip (.inr rfl) hh.2 (by omega)))
 ·exact q0f (q0f hh.1 (q2w (qip (.inl rfl) hh.2 (by omega)))) (hj h1)
theorem qn5 (B : List Int) (m : Mac) : (fixM B m).op = m.op := by
 unfold fixM
 split <;> rfl
theorem qee {m : Mac} (h : isJ m = true) : (qu m.op).n = 2 := by
 have h1 := of_decide_eq_true h;have : m.op = 37 ∨ m.op = 38 ∨ m.op = 39 := by omega
 rcases this with h | h | h <;> (rw [h]; rfl)
theorem qid {many nb : Int} {B : List Int} {N : Int} {m : Mac} (h : HomeM many nb m) (hB : ∀ t, 0 ≤ t -> t < nb -> 0 ≤ B.getD t.toNat 0 ∧ B.getD t.toNat 0 < N) : HomeM many N (fixM B m) := by
 unfold fixM
 split
 ·rename_i hj;refine ⟨h.kn, h.d, h.a, h.b, ?_⟩
  rcases h.n with h1 | h1 | h1 | h1 | h1
  ·rw [qee hj] at h1; omega
  ·exact .inr (.inl h1)
  ·exact .inr (.inr (.inl ⟨h1.1, h1.2.1, hB _ h1.2.2.1 h1.2.2.2⟩))
  ·rw [qee hj] at h1; omega
  ·rw [qee hj] at h1; omega
 ·rename_i hj;refine ⟨h.kn, h.d, h.a, h.b, ?_⟩
  rcases h.n with h1 | h1 | h1 | h1 | h1
  ·exact .inl h1
  ·exact .inr (.inl h1)
  ·exact absurd h1.2.1 hj
  ·exact .inr (.inr (.inr (.inl h1)))
  ·exact .inr (.inr (.inr (.inr h1)))
theorem q5n {many r : Int} {g : Bool} (h : if g = true then RegH many r else r = 0) : q0g g r = 0 := by
 unfold q0g
 cases g
 ·have h : r = 0 := h;simp [h]
 ·have h : RegH many r := h;obtain ⟨h1, h2, _⟩ := h;simp;omega
theorem qj5 {many N : Int} {m : Mac} (h : HomeM many N m) : macF m N = 0 := by
 have hn : q09 (qu m.op).n m.n N = 0 := by
  unfold q09
  rcases h.n with h1 | h1 | h1 | h1 | h1
  ·rw [h1.1, h1.2]; rfl
  ·rw [h1]; rfl
  ·rw [h1.1]; simp; omega
  ·rw [h1.1]; simp; omega
  ·rw [h1.1]; simp; omega
 unfold macF;rw [if_neg (by rw [h.kn]; decide)];dsimp only;rw [q5n h.d, q5n h.a, q5n h.b, hn];rfl
theorem q6f {l : List Mac} (h : ∀ m ∈ l, macF m l.length = 0) (hz : (l.getD (l.length - 1) ⟨0, 0, 0, 0, 0⟩).op = 37 ∨ (l.getD (l.length - 1) ⟨0, 0, 0, 0, 0⟩).op = 45) : ∀ (f i : Nat), f + i = l.length -> q1i l f i = (0, 0)
 | 0, i, _ => by unfold q1i; rw [if_pos hz]
 | f + 1, i, hf => by
   unfold q1i;have hi : i < l.length := by omega
   have e : macF (l.getD i ⟨0, 0, 0, 0, 0⟩) l.length = 0 := by
    rw [List.getD_eq_getElem?_getD, List.getElem?_eq_getElem hi];exact h _ (List.getElem_mem hi)
   rw [if_neg (by rw [e]; simp)];exact q6f h hz f (i + 1) (by omega)
theorem q9b {l k : List Mac} {z : Mac} (hl : l = k ++ [z]) (h5 : l.length ≤ 5000) (h : ∀ m ∈ l, macF m l.length = 0) (hz : z.op = 37 ∨ z.op = 45) : q0v l = (0, 0) := by
 have hp : 0 < l.length := by rw [hl]; simp
 unfold q0v;rw [if_neg (by omega), if_neg (fun e => by rw [e] at hp; cases hp)]
 have e : l.getD (l.length - 1) ⟨0, 0, 0, 0, 0⟩ = z := by
  rw [hl, List.getD_eq_getElem?_getD];simp
 exact q6f h (by rw [e]; exact hz) _ _ (by omega)
theorem ql0 {pre : List Mac} {pl : List Int} {s : Int} {S : List Int} {bs : List UBlk} {k t : Nat} (h : t < k) : (begsL pre pl s S bs k).getD t 0 = ((pre ++ blksL pl s S bs t).length : Int) := by
 unfold begsL;rw [List.getD_eq_getElem?_getD, List.getElem?_map, List.getElem?_range h];rfl
theorem q9m {pl : List Int} {s : Int} {S : List Int} {bs : List UBlk} {j : Nat} : ∀ k, j ≤ k -> (blksL pl s S bs j).length ≤ (blksL pl s S bs k).length
 | 0, h => by
   obtain rfl : j = 0 := by omega
   exact Nat.le_refl _
 | k + 1, h => by
   by_cases e : j = k + 1
   ·rw [e]; exact Nat.le_refl _
   ·have := q9m (pl := pl) (s := s) (S := S) (bs := bs) (j := j) k (by omega);rw [blksL, List.length_append];omega
theorem qm1 {many : Int} {pl : List Int} {s : Int} {S : List Int} {p : Int} {lv : List Int} (hS : S.length ≤ 8) (hlv : lv.Nodup) (hl0 : ∀ r ∈ lv, 0 ≤ r) (hp : p ≤ 6) (hm : 2 ≤ many ∧ many ≤ 14) (hpl : ∀ r ∈ lv, q2e many (plAt pl r) = true ∨ 16 ≤ plAt pl r) (hap : ∀ a ∈ lv, ∀ b ∈ lv, a ≠ b -> plAt pl a ≠ plAt pl b) : (preL pl s S p lv).length ≤ 35 := by
 unfold preL;rw [List.length_append, List.length_append, q1e]
 have h1 : (begMv pl p lv).length ≤ 6 := by
  unfold begMv;rw [List.length_map];refine Nat.le_trans (q3g _ (ints 6) (List.Nodup.sublist List.filter_sublist hlv) fun r hr => ?_) (by rw [q2x]; exact Nat.le_refl _);obtain ⟨h2, h3⟩ := List.mem_filter.1 hr;have := hl0 r h2;have := of_decide_eq_true h3;exact mem_ints.2 (by omega)
 have h2 := q7d (l := begMv pl p lv) fun m hm => by
  have := (qea (p := fun _ => True) (q := fun t => t < 16) trivial (by decide) trivial (by decide) (l := begMv pl p lv) (fun m hm => ⟨trivial, by
   obtain ⟨r, hr, rfl⟩ := List.mem_map.1 hm;have := of_decide_eq_true (List.mem_filter.1 hr).2;dsimp only;omega⟩) m hm).2
  exact .inr this
 have h3 : (begSt pl p lv).length ≤ 14 := by
  have e : (begSt pl p lv).length = (((lv.filter fun r => decide (p ≤ r) && decide (plAt pl r < 16))).map (plAt pl)).length := by unfold begSt; rw [List.length_map, List.length_map]
  rw [e];refine Nat.le_trans (q3g _ (ints 14) ?_ fun q hq => ?_) (by rw [q2x]; exact Nat.le_refl _)
  ·rw [List.Nodup, List.pairwise_map];refine List.Pairwise.imp_of_mem (fun {a b} ha hb hab => ?_) (List.Nodup.sublist List.filter_sublist hlv);exact hap a (List.mem_filter.1 ha).1 b (List.mem_filter.1 hb).1 hab
  ·obtain ⟨r, hr, rfl⟩ := List.mem_map.1 hq;obtain ⟨h5, h6⟩ := List.mem_filter.1 hr;rw [Bool.and_eq_true, decide_eq_true_eq, decide_eq_true_eq] at h6
   rcases hpl r h5 with h7 | h7
   ·exact mem_ints.2 (q69 h7 hm)
   ·omega
 omega
theorem qh5 {u : Unt} {many : Int} {nb : Nat} {pl : List Int} {s : Int} {S : List Int} {fl : Int × Int} {p : Int} {lv : List Int} {bs : List UBlk} {regs regs' : Int} (hnb : bs.length = nb) (h1 : 1 ≤ nb ∧ nb ≤ 40) (hF : Fits many s S fl) (hs : s + S.length ≤ 120)
 (he : ∀ b ∈ bs, EndOk regs nb b.end_) (hx : ∀ b ∈ bs, ∀ x ∈ b.list, InsOk u regs' x) (h6 : ∀ b ∈ bs, ∀ x ∈ b.list, x.args.length ≤ 6) (ht : totL bs ≤ 300) (hpl : ∀ b ∈ bs, ∀ r ∈ regsB b, PlH many (plAt pl r))
 (hpre : (preL pl s S p lv).length ≤ 35) (hph : ∀ m ∈ preL pl s S p lv, HomeM many nb m) :
 q0v (pickL pl s S p lv bs) = (0, 0) ∧ ∀ m ∈ pickL pl s S p lv bs, ∃ N, HomeM many N m := by
 have hb : ∀ k, k ≤ bs.length -> ∀ m ∈ blksL pl s S bs k, HomeM many nb m := fun k => by
  induction k with
  | zero => intro _; exact q6b
  | succ k ih =>
    intro hk;rw [q37 hk];have hm := List.getElem_mem hk;refine q0f (ih (by omega)) (q0f (fun m hm1 => ?_) (qi8 (u := u) (he _ hm) hF hs fun hr => hpl _ hm _ ?_))
    ·obtain ⟨x, hx1, hx2⟩ := List.mem_flatMap.1 hm1;exact qiu (hx _ hm x hx1) (h6 _ hm x hx1) (fun r hr => hpl _ hm r (by unfold regsB; exact List.mem_append.2 (.inl (List.mem_flatMap.2 ⟨x, hx1, hr⟩)))) m hx2
    ·unfold regsB regsV;simp [hr]
 obtain ⟨q, hq⟩ : ∃ q, bs.length = q + 1 := ⟨bs.length - 1, by omega⟩;obtain ⟨P, hP⟩ := nmm (preL pl s S p lv);have hqb : q < bs.length := by omega
 obtain ⟨el, z, hel, hz⟩ := qbs (pl := pl) (s := s) (S := S) (he _ (List.getElem_mem hqb))
 have hlast : blksL pl s S bs bs.length = blksL pl s S bs q ++ (bs[q].list.flatMap (insL pl) ++ el) ++ [z] := by
  rw [hq, q37 hqb, List.append_assoc, List.append_assoc, <- hel];unfold blkL;have : ((q : Int) + 1) = (nb : Int) := by omega
  rw [this]
 have hlen : (pickL pl s S p lv bs).length = P.length + (blksL pl s S bs bs.length).length := by
  unfold pickL;rw [List.length_map, List.length_append, hP]
 have htk : totL (bs.take bs.length) = totL bs := by rw [List.take_length]
 have hbl := q89 (pl := pl) (s := s) hF.len h6 bs.length (Nat.le_refl _);rw [htk] at hbl
 have hB : ∀ t, 0 ≤ t -> t < (nb : Int) -> 0 ≤ (begsL P pl s S bs bs.length).getD t.toNat 0 ∧ (begsL P pl s S bs bs.length).getD t.toNat 0 < ((pickL pl s S p lv bs).length : Int) := fun t h0 h1 => by
  rw [ql0 (by omega), hlen, hlast, List.length_append, List.length_append, List.length_append, List.length_singleton];have := q9m (pl := pl) (s := s) (S := S) (bs := bs) (j := t.toNat) q (by omega);omega
 have hall : ∀ m ∈ pickL pl s S p lv bs, HomeM many ((pickL pl s S p lv bs).length : Int) m := fun m hm => by
  have hm' := hm;unfold pickL at hm';obtain ⟨m0, h0, rfl⟩ := List.mem_map.1 hm';refine qid ?_ (by rw [<- hP]; exact hB)
  rcases List.mem_append.1 h0 with h2 | h2
  ·exact hph m0 h2
  ·exact hb _ (Nat.le_refl _) m0 h2
 refine ⟨q9b (k := (P ++ (blksL pl s S bs q ++ (bs[q].list.flatMap (insL pl) ++ el))).map (fixM (begsL P pl s S bs bs.length))) (z := fixM (begsL P pl s S bs bs.length) z) ?_ (by rw [hlen, hP]; omega) (fun m hm => qj5 (hall m hm)) (by rw [qn5]; exact hz), fun m hm => ⟨_, hall m hm⟩⟩;unfold pickL;rw [<- hP, hlast, <- List.append_assoc, List.map_append];rfl
theorem qcr (l : List UVal) : (regsV l).length ≤ l.length := by
 unfold regsV;rw [List.length_map];exact List.length_filter_le _ _
theorem qjq {bs : List UBlk} (h6 : ∀ b ∈ bs, ∀ x ∈ b.list, x.args.length ≤ 6) : (bs.flatMap regsB).length ≤ 9 * totL bs + bs.length := by
 induction bs with
 | nil => simp [totL]
 | cons b bs ih =>
   have h1 := ih fun b hb => h6 b (by simp [hb])
   have h2 : (b.list.flatMap regsX).length ≤ 9 * b.list.length := q8h fun x hx => by
    have := h6 b (by simp) x hx;have h3 := qcr (qn x)
    have h4 : (qn x).length ≤ 8 := by
     unfold qn;simp only [List.length_append]
     split <;> split <;> simp <;> omega
    unfold regsX;rw [List.length_append]
    split <;> simp <;> omega
   have h5 := qcr [b.end_.on];rw [List.flatMap_cons, List.length_append, List.length_cons];have h7 : totL (b :: bs) = b.list.length + totL bs := by simp [totL]
   have h8 : (regsB b).length = (b.list.flatMap regsX).length + (regsV [b.end_.on]).length := by unfold regsB; rw [List.length_append]
   simp only [List.length_singleton] at h5;omega
theorem qbr (l : List Int) (r : Int) : l.count r ≤ l.length := List.count_le_length
theorem ColOk.plH {u : Unt} {k : Nat} {f : UFun} {n : Nat} {many : Int} {C : Int -> Int -> Bool} {A : Int -> Bool} {L : Nat -> Nat -> Int -> Bool} (h : ColOk u k f n many C A L) (h6 : ∀ b ∈ f.blocks, ∀ x ∈ b.list, x.args.length ≤ 6) (ht : totL f.blocks ≤ 300) {r : Int} (h0 : 0 ≤ r ∧ r < (n : Int)) (hr : r ∈ regsF f ∨ L 0 0 r = true) :
 q2e many (plAt (qy f n many C A (L 0 0)) r) = true ∨ (16 ≤ plAt (qy f n many C A (L 0 0)) r ∧ plAt (qy f n many C A (L 0 0)) r ≤ 116) := by
 have hfo := funOk h.ok h.fn;have hn : n ≤ 100 := by have := hfo.regs.2; have := h.regs; omega
 have hc := (q78 (f := f) (many := many) (A := A) (L := L 0 0) hn (fun a b hab => (h.hC b a).2 (q9o ((h.hC a b).1 hab)))).2
 have hw : r ∈ wantL f n (L 0 0) := by
  refine mem_rowX.2 ⟨h0, ?_⟩;rw [Bool.or_eq_true, decide_eq_true_eq]
  rcases hr with hr | hr
  ·left
   have h1 : 0 < (regsF f).count r := List.count_pos_iff.2 hr;have h2 := qbr (regsF f) r;have h3 : (regsF f).length ≤ 9 * totL f.blocks + f.blocks.length := qjq h6;have h4 := hfo.blocks.2;unfold wgt cntW wrap64;omega
  ·exact .inr hr
 rcases q56 _ (qau (pl := qy f n many C A (L 0 0)) h0.1 (by rw [q3c]; exact h0.2)) with h1 | h1
 ·exact absurd h1 (hc r hw)
 ·exact h1
theorem qjm {many p : Int} (hm : 2 ≤ many ∧ many ≤ 14) (h : q2e many p = true ∨ (16 ≤ p ∧ p ≤ 116)) : PlH many p := by
 rcases h with h | h
 ·have := q69 h hm;exact .inl ⟨⟨by omega, by omega, fun _ _ => h⟩, by omega⟩
 ·exact .inr (by omega)
theorem ColOk.homes {u : Unt} {k : Nat} {f : UFun} {n : Nat} {many : Int} {C : Int -> Int -> Bool} {A : Int -> Bool} {L : Nat -> Nat -> Int -> Bool} (h : ColOk u k f n many C A L) {fl : Int × Int} (hF : Fits many (q0o (qy f n many C A (L 0 0))) (q3k (qy f n many C A (L 0 0))) fl) (ht : totL f.blocks ≤ 300) :
 q0v (pickL (qy f n many C A (L 0 0)) (q0o (qy f n many C A (L 0 0))) (q3k (qy f n many C A (L 0 0))) f.params (rowX (L 0 0) n) f.blocks) = (0, 0) ∧
  ∀ m ∈ pickL (qy f n many C A (L 0 0)) (q0o (qy f n many C A (L 0 0))) (q3k (qy f n many C A (L 0 0))) f.params (rowX (L 0 0) n) f.blocks, ∃ N, HomeM many N m := by
 have hfo := funOk h.ok h.fn;have hx : ∀ b ∈ f.blocks, ∀ x ∈ b.list, InsOk u (n : Int) x := fun b hb x hx => by have := hfo.ins b hb x hx; rwa [h.regs] at this
 have h6 : ∀ b ∈ f.blocks, ∀ x ∈ b.list, x.args.length ≤ 6 := fun b hb x hm => (insP h.ok (pl := List.replicate n 0) List.length_replicate (hx b hb x hm)).2;obtain ⟨pl, hpl⟩ : ∃ pl, pl = qy f n many C A (L 0 0) := ⟨_, rfl⟩;have hlv := (h.lives (p := f.params)).2;have hph := fun {r : Int} => h.plH h6 ht (r := r);rw [<- hpl] at hF hlv hph ⊢;have hval : ∀ {v : UVal}, ValOk (n : Int) v -> v.reg = true -> 0 ≤ v.n ∧ v.n < (n : Int) := fun h1 h2 => h1 h2
 have hreg : ∀ b ∈ f.blocks, ∀ r ∈ regsB b, PlH many (plAt pl r) := fun b hb r hr => by
  refine qjm h.many (hph ?_ (.inl (List.mem_flatMap.2 ⟨b, hb, hr⟩)));unfold regsB at hr
  rcases List.mem_append.1 hr with h1 | h1
  ·obtain ⟨x, hx1, hx2⟩ := List.mem_flatMap.1 h1;have hi := hx b hb x hx1;unfold regsX at hx2
   rcases List.mem_append.1 hx2 with h2 | h2
   ·have := hi.dst
    split at h2
    ·rw [List.mem_singleton] at h2;omega
    ·cases h2
   ·obtain ⟨v, hv, rfl⟩ := List.mem_map.1 h2;obtain ⟨hv1, hv2⟩ := List.mem_filter.1 hv;unfold qn at hv1
    rcases List.mem_append.1 hv1 with h3 | h3
    ·split at h3
     ·rw [List.mem_singleton] at h3;rw [h3] at hv2 ⊢;exact hi.a hv2
     ·cases h3
    ·rcases List.mem_append.1 h3 with h4 | h4
     ·split at h4
      ·rw [List.mem_singleton] at h4;rw [h4] at hv2 ⊢;exact hi.b hv2
      ·cases h4
     ·exact hi.args v h4 hv2
  ·obtain ⟨v, hv, rfl⟩ := List.mem_map.1 h1;obtain ⟨hv1, hv2⟩ := List.mem_filter.1 hv;rw [List.mem_singleton] at hv1;rw [hv1] at hv2 ⊢;have := hfo.on b hb hv2
   rwa [h.regs] at this
 have hpar := hfo.params
 have hlive : ∀ r ∈ rowX (L 0 0) n, q2e many (plAt pl r) = true ∨ (16 ≤ plAt pl r ∧ plAt pl r ≤ 116) := fun r hr => by
  obtain ⟨h1, h2⟩ := mem_rowX.1 hr;exact hph h1 (.inr h2)
 have hs : q0o pl + (q3k pl).length ≤ 120 := by have := hF.spills; have := hF.len; omega
 refine qh5 rfl hfo.blocks hF hs (fun b hb => endOk h.ok h.fn b hb) hx h6 ht hreg ?_ ?_
 ·exact qm1 hF.len ((q1s _ _).imp fun h e => by omega) (fun r hr => (mem_rowX.1 hr).1.1) hpar.2 h.many (fun r hr => (hlive r hr).imp id fun h => h.1) hlv
 ·unfold preL;refine q0f (q0f (qg0 hF hs (fun r w => ⟨36, 0, r, 0, w⟩) fun r w h1 h2 => q7n h1 h2) (q6g fun m hm => ?_)) (fun m hm => ?_)
  ·obtain ⟨r, hr, rfl⟩ := List.mem_map.1 hm;obtain ⟨h1, h2⟩ := List.mem_filter.1 hr;have := (mem_rowX.1 h1).1;have := of_decide_eq_true h2;exact ⟨qjm h.many (hlive r h1), .inl ⟨q5s (by dsimp only; omega) (by dsimp only; omega), by dsimp only; omega⟩⟩
  ·obtain ⟨r, hr, rfl⟩ := List.mem_map.1 hm;obtain ⟨h1, h2⟩ := List.mem_filter.1 hr;rw [Bool.and_eq_true, decide_eq_true_eq, decide_eq_true_eq] at h2;refine q6c ?_;have h3 := qjm h.many (hlive r h1);unfold PlH at h3
   rcases h3 with h3 | h3
   ·exact h3.1
   ·omega
theorem qbc (many : Int) (hm : 2 ≤ many ∧ many ≤ 14) (r : Int) (w : World) (R : Ending -> World -> Prop) (hR : R (.returned (.bool (q2e many r))) w) :
 Calls Tryz.prog 12 #[.int .i64 many, .int .i64 r] w R := by
 have HR := lh hR;obtain ⟨c, hc⟩ := nmm (halfC many);have hd : q2e many r = decide ((0 ≤ r ∧ r < c) ∨ (6 ≤ r ∧ r < 6 + many - c)) := by rw [hc]; rfl
 rw [hd] at HR;have hcc : c = if many / 2 + many % 2 > 6 then 6 else many / 2 + many % 2 := hc;obtain ⟨h, hh⟩ : ∃ h, h = many / 2 + many % 2 := ⟨_, rfl⟩;rw [<- hh] at hcc;have e1 : many.tdiv 2 = many / 2 := by rw [Int.tdiv_eq_ediv_of_nonneg (by omega)]
 have e2 : many.tmod 2 = many % 2 := by rw [Int.tmod_eq_emod_of_nonneg (by omega)]
 have h1 : 1 ≤ h ∧ h ≤ 7 := by omega
 obtain ⟨m0, m1⟩ := hm;obtain ⟨z, hz⟩ : ∃ z, z = decide ((0 ≤ r ∧ r < c) ∨ (6 ≤ r ∧ r < 6 + many - c)) := ⟨_, rfl⟩;rw [<- hz] at HR;have Hz := lh hz;have hcb : c ≤ 6 ∧ 1 ≤ c := by split at hcc <;> omega
 have e3 : many / 2 + many % 2 = h := hh.symm;have Hh := lh hh;clear hR hc hd hz hh
 have hcase : (h > 6 ∧ c = 6) ∨ (¬ h > 6 ∧ c = h) := by
  by_cases h6 : h > 6
  ·rw [if_pos h6] at hcc; exact .inl ⟨h6, hcc⟩
  ·rw [if_neg h6] at hcc; exact .inr ⟨h6, hcc⟩
 have Hcb := lh hcb;clear hcc hcb
 rcases hcase with ⟨h6, hc6⟩ | ⟨h6, hc6⟩
 ·subst hc6
  rcases (show (0 ≤ r ∧ r < 6) ∨ (0 ≤ r ∧ ¬ r < 6 ∧ 6 ≤ r ∧ r < 6 + many - 6) ∨ (0 ≤ r ∧ ¬ r < 6 ∧ 6 ≤ r ∧ ¬ r < 6 + many - 6) ∨ (¬ 0 ≤ r ∧ ¬ 6 ≤ r) by omega) with ⟨r1, r2⟩ | ⟨r1, r2, r3, r4⟩ | ⟨r1, r2, r3, r4⟩ | ⟨r1, r2⟩
  ·have hzz : z = true := by rw [Hz.out, decide_eq_true_eq]; omega
   subst hzz
   go_enter Tryz.func12, Tryz.ntmps12
   go_wp2;exact HR.out
  ·have hzz : z = true := by rw [Hz.out, decide_eq_true_eq]; omega
   subst hzz
   go_enter Tryz.func12, Tryz.ntmps12
   go_wp2;exact HR.out
  ·have hzz : z = false := by rw [Hz.out, decide_eq_false_iff_not]; omega
   subst hzz
   go_enter Tryz.func12, Tryz.ntmps12
   go_wp2;exact HR.out
  ·have hzz : z = false := by rw [Hz.out, decide_eq_false_iff_not]; omega
   subst hzz
   go_enter Tryz.func12, Tryz.ntmps12
   go_wp2;exact HR.out
 ·subst hc6
  rcases (show (0 ≤ r ∧ r < c) ∨ (0 ≤ r ∧ ¬ r < c ∧ 6 ≤ r ∧ r < 6 + many - c) ∨ (0 ≤ r ∧ ¬ r < c ∧ 6 ≤ r ∧ ¬ r < 6 + many - c) ∨ (0 ≤ r ∧ ¬ r < c ∧ ¬ 6 ≤ r) ∨ (¬ 0 ≤ r ∧ ¬ 6 ≤ r) by omega) with ⟨r1, r2⟩ | ⟨r1, r2, r3, r4⟩ | ⟨r1, r2, r3, r4⟩ | ⟨r1, r2, r3⟩ | ⟨r1, r2⟩
  ·have hzz : z = true := by rw [Hz.out, decide_eq_true_eq]; omega
   subst hzz
   go_enter Tryz.func12, Tryz.ntmps12
   go_wp2;exact HR.out
  ·have hzz : z = true := by rw [Hz.out, decide_eq_true_eq]; omega
   subst hzz
   go_enter Tryz.func12, Tryz.ntmps12
   go_wp2;exact HR.out
  ·have hzz : z = false := by rw [Hz.out, decide_eq_false_iff_not]; omega
   subst hzz
   go_enter Tryz.func12, Tryz.ntmps12
   go_wp2;exact HR.out
  ·have hzz : z = false := by rw [Hz.out, decide_eq_false_iff_not]; omega
   subst hzz
   go_enter Tryz.func12, Tryz.ntmps12
   go_wp2;exact HR.out
  ·have hzz : z = false := by rw [Hz.out, decide_eq_false_iff_not]; omega
   subst hzz
   go_enter Tryz.func12, Tryz.ntmps12
   go_wp2;exact HR.out
theorem q9q (op : Int) (h : known op = true) : (fieldsOf op).size ≤ 3 ∧ ((fieldsOf op).toList == [63]) = false ∧ hasB (fieldsOf op) 100 (fieldsOf op).size 0 = (qu op).d ∧ hasB (fieldsOf op) 97 (fieldsOf op).size 0 = (qu op).a ∧ hasB (fieldsOf op) 98 (fieldsOf op).size 0 = (qu op).b ∧
 hasB (fieldsOf op) 110 (fieldsOf op).size 0 = ((qu op).n == 1) ∧ hasB (fieldsOf op) 116 (fieldsOf op).size 0 = ((qu op).n == 2) ∧ hasB (fieldsOf op) 119 (fieldsOf op).size 0 = ((qu op).n == 3) ∧ hasB (fieldsOf op) 114 (fieldsOf op).size 0 = ((qu op).n == 4) ∧
 ((qu op).n = 0 ∨ (qu op).n = 1 ∨ (qu op).n = 2 ∨ (qu op).n = 3 ∨ (qu op).n = 4) := by
 have hb : 1 ≤ op ∧ op ≤ 47 := by simpa [known] using h
 obtain ⟨k, rfl⟩ : ∃ k : Nat, op = (k : Int) := ⟨op.toNat, by omega⟩;have e1 : fieldsOf (k : Int) = fieldsTab.getD k ⟨#[63]⟩ := by rw [fieldsOf, if_pos hb]; rfl
 have e2 : qu (k : Int) = shapeTab.getD k ⟨false, false, false, 0⟩ := by rw [qu, if_pos hb]; rfl
 rw [e1, e2]
 have key : ∀ k : Nat, k < 48 -> 1 ≤ k -> (fieldsTab.getD k ⟨#[63]⟩).size ≤ 3 ∧ ((fieldsTab.getD k ⟨#[63]⟩).toList == [63]) = false ∧ hasB (fieldsTab.getD k ⟨#[63]⟩) 100 (fieldsTab.getD k ⟨#[63]⟩).size 0 = (shapeTab.getD k ⟨false, false, false, 0⟩).d ∧ hasB (fieldsTab.getD k ⟨#[63]⟩) 97 (fieldsTab.getD k ⟨#[63]⟩).size 0 = (shapeTab.getD k ⟨false, false, false, 0⟩).a ∧ hasB (fieldsTab.getD k ⟨#[63]⟩) 98 (fieldsTab.getD k ⟨#[63]⟩).size 0 = (shapeTab.getD k ⟨false, false, false, 0⟩).b ∧
  hasB (fieldsTab.getD k ⟨#[63]⟩) 110 (fieldsTab.getD k ⟨#[63]⟩).size 0 = ((shapeTab.getD k ⟨false, false, false, 0⟩).n == 1) ∧ hasB (fieldsTab.getD k ⟨#[63]⟩) 116 (fieldsTab.getD k ⟨#[63]⟩).size 0 = ((shapeTab.getD k ⟨false, false, false, 0⟩).n == 2) ∧ hasB (fieldsTab.getD k ⟨#[63]⟩) 119 (fieldsTab.getD k ⟨#[63]⟩).size 0 = ((shapeTab.getD k ⟨false, false, false, 0⟩).n == 3) ∧ hasB (fieldsTab.getD k ⟨#[63]⟩) 114 (fieldsTab.getD k ⟨#[63]⟩).size 0 = ((shapeTab.getD k ⟨false, false, false, 0⟩).n == 4) ∧
  ((shapeTab.getD k ⟨false, false, false, 0⟩).n = 0 ∨ (shapeTab.getD k ⟨false, false, false, 0⟩).n = 1 ∨ (shapeTab.getD k ⟨false, false, false, 0⟩).n = 2 ∨ (shapeTab.getD k ⟨false, false, false, 0⟩).n = 3 ∨ (shapeTab.getD k ⟨false, false, false, 0⟩).n = 4) := by decide +kernel
 exact key k (by omega) (by omega)
def hasN (s : ByteArray) (n : Int) : Bool := hasB s (UInt8.ofNat n.toNat) s.size 0
theorem q0q (s : ByteArray) (n : Int) (h0 : 0 ≤ n) (h1 : n < 256) (hs : s.size ≤ 100) (w : World) (R : Ending -> World -> Prop) (hR : R (.returned (.bool (hasN s n))) w) :
 Calls Tryz.prog 18 #[.string s, .int .u8 n] w R := by
 have e : n = ((UInt8.ofNat n.toNat).toNat : Nat) := by
  rw [UInt8.toNat_ofNat'];omega
 have := q60 s (UInt8.ofNat n.toNat) hs w R hR;rw [<- e] at this;exact this
def fsOf (s : Shape) (m : Mac) : List Int := [q0g s.d m.dst, q0g s.a m.a, q0g s.b m.b]
theorem qnd {m : Mac} {many : Int} (h : known m.op = true) : macF m many = if (3 : Int) ∈ fsOf (qu m.op) m ∨ q09 (qu m.op).n m.n many = 3 then 3 else if (5 : Int) ∈ fsOf (qu m.op) m ∨ q09 (qu m.op).n m.n many = 5 then 5 else 0 := by
 unfold macF;rw [if_neg (by simp [h])];unfold fsOf;simp only [List.mem_cons, List.not_mem_nil, or_false, or_assoc, eq_comm (a := (3 : Int)), eq_comm (a := (5 : Int))]
theorem qac (m : Mac) (many : Int) (w : World) (R : Ending -> World -> Prop) (hR : ∀ w', Below w.heap.size w w' -> R (.returned (.int .i64 (macF m many))) w') :
 Calls Tryz.prog 36 #[.agg #[.int .i64 m.op, .int .i64 m.dst, .int .i64 m.a, .int .i64 m.b, .int .i64 m.n], .int .i64 many] w R := by
 cases hk : known m.op
 ·have e : macF m many = 4 := by rw [macF, if_pos hk]
  have ef : fieldsOf m.op = ⟨#[63]⟩ := by
   rw [fieldsOf, if_neg];simpa [known] using hk
  rw [e] at hR;have HR := lh hR;clear e hR hk
  go_enter Tryz.func36, Tryz.ntmps36
  go_wp2_with fail
  refine q4l _ _ _ ?_;intro w1 hb1;rw [ef];obtain ⟨hc1, hf1⟩ := bcell hb1;clear ef;go_wp2;exact HR.out _ bl0
 ·obtain ⟨f1, f2, f3, f4, f5, f6, f7, f8, f9, f10⟩ := q9q _ hk;have HR := lh hR;clear hR
  go_enter Tryz.func36, Tryz.ntmps36
  go_wp2_with fail
  refine q4l _ _ _ ?_;intro w1 hb1;have hp0 : w1.cell? ⟨w.heap.size, 1, none⟩ = some (.int .i64 m.dst) := by rw [hb1.cell (by simp)]; simp
  have hp1 : w1.cell? ⟨w.heap.size, 2, none⟩ = some (.int .i64 m.a) := by rw [hb1.cell (by simp)]; simp
  have hp2 : w1.cell? ⟨w.heap.size, 3, none⟩ = some (.int .i64 m.b) := by rw [hb1.cell (by simp)]; simp
  have hp3 : w1.cell? ⟨w.heap.size, 4, none⟩ = some (.int .i64 m.n) := by rw [hb1.cell (by simp)]; simp
  have hz1 : w.heap.size < w1.heap.size := by have := hb1.size; simp at this; omega
  rw [qnd hk] at HR;have hb2 : Below w.heap.size w w1 := bl0;have Hb2 := lh hb2;generalize fieldsOf m.op = f at *;generalize qu m.op = s at *;clear hk hb1 hb2
  go_wp2_with fail
  have Hb3 : Hid (Below w.heap.size w (w1.alloc (.cells #[.int .i64 m.dst, .int .i64 m.a, .int .i64 m.b] 3))) := Hb2.out.alloc (by first | omega | (simp; done) | (simp; omega)) _;have c0 : (w1.alloc (.cells #[.int .i64 m.dst, .int .i64 m.a, .int .i64 m.b] 3)).cell? ⟨w1.heap.size, 0, none⟩ = some (.int .i64 m.dst) := by simp
  have c1 : (w1.alloc (.cells #[.int .i64 m.dst, .int .i64 m.a, .int .i64 m.b] 3)).cell? ⟨w1.heap.size, 1, none⟩ = some (.int .i64 m.a) := by simp
  have c2 : (w1.alloc (.cells #[.int .i64 m.dst, .int .i64 m.a, .int .i64 m.b] 3)).cell? ⟨w1.heap.size, 2, none⟩ = some (.int .i64 m.b) := by simp
  have c3 : (w1.alloc (.cells #[.int .i64 m.dst, .int .i64 m.a, .int .i64 m.b] 3)).cell? ⟨w.heap.size, 4, none⟩ = some (.int .i64 m.n) := by rw [World.cell?_alloc_lt _ _ _ hz1]; exact hp3
  generalize w1.alloc (.cells #[.int .i64 m.dst, .int .i64 m.a, .int .i64 m.b] 3) = w2 at *;clear Hb2 hp0 hp1 hp2 hp3
  go_loopg [7, 8] 3 (fun g fo i wr => ∃ k : Nat, k ≤ 3 ∧ g = 3 - k ∧ i = .int .i64 k ∧ fo = .bool (decide ((5 : Int) ∈ (fsOf s m).take k)) ∧ (3 : Int) ∉ (fsOf s m).take k ∧ wr = w2)
  case atStart => exact ⟨0, by omega, rfl, rfl, rfl, by simp, rfl⟩
  case round =>
   obtain ⟨k, hk, rfl, rfl, rfl, hok, rfl⟩ := hrel;have hk' : k = 0 ∨ k = 1 ∨ k = 2 ∨ k = 3 := by omega
   rcases hk' with rfl | rfl | rfl | rfl
   ·have Hok := lh hok;clear hok
    go_wp2_with fail
    refine q60 _ 100 (by omega) _ _ ?_;rw [f3];obtain ⟨q, hq⟩ : ∃ q, decide ((5 : Int) ∈ (fsOf s m).take 0) = q := ⟨_, rfl⟩;rw [hq];have Hq := lh hq;clear hq
    cases hu : s.d
    ·by_cases hr : m.dst = 0
     ·have Hv : Hid (q0g s.d m.dst = 0) := by rw [Hid, hu, q0g, if_neg (by simp), if_neg (by simp [hr])]
      have hb : (m.dst != 0) = false := by simp [hr]
      have Hr := lh hr;clear hr;go_wp2
      all_goals try (exfalso; omega)
      go_roundg 2
      case measure => omega
      case rel => exact ⟨1, by omega, rfl, rfl, by first | (rw [<- Hq.out]; simp [fsOf, Hv.out]; done) | (simp [fsOf, Hv.out]; done), by have := Hok.out; simp [fsOf, Hv.out] at this ⊢ <;> first | exact this | omega, rfl⟩
     ·have Hv : Hid (q0g s.d m.dst = 5) := by rw [Hid, hu, q0g, if_neg (by simp), if_pos hr]
      have hb : (m.dst != 0) = true := by simp [hr]
      clear hr;go_wp2
      all_goals try (exfalso; omega)
      go_roundg 2
      case measure => omega
      case rel => exact ⟨1, by omega, rfl, rfl, by first | (rw [<- Hq.out]; simp [fsOf, Hv.out]; done) | (simp [fsOf, Hv.out]; done), by have := Hok.out; simp [fsOf, Hv.out] at this ⊢ <;> first | exact this | omega, rfl⟩
    ·by_cases hr : m.dst < 0 ∨ 15 < m.dst
     ·have hv : q0g s.d m.dst = 3 := by rw [hu, q0g, if_pos rfl, if_pos hr]
      have HR3 : Hid (∀ w', Below w.heap.size w w' -> R (.returned (.int .i64 3)) w') := by
       have := HR.out;rw [if_pos (.inl (by simp [fsOf, hv]))] at this;exact this
      clear hv HR
      by_cases h1 : m.dst < 0
      ·go_wp2;exact HR3.out _ Hb3.out
      ·have h2 : 15 < m.dst := by omega
       go_wp2
       all_goals exact HR3.out _ Hb3.out
     ·have Hv : Hid (q0g s.d m.dst = 0) := by rw [Hid, hu, q0g, if_pos rfl, if_neg hr]
      have h1 : ¬ m.dst < 0 := by omega
      have h2 : ¬ 15 < m.dst := by omega
      clear hr;go_wp2
      all_goals try (exfalso; omega)
      go_roundg 2
      case measure => omega
      case rel => exact ⟨1, by omega, rfl, rfl, by first | (rw [<- Hq.out]; simp [fsOf, Hv.out]; done) | (simp [fsOf, Hv.out]; done), by have := Hok.out; simp [fsOf, Hv.out] at this ⊢ <;> first | exact this | omega, rfl⟩
   ·have Hok := lh hok;clear hok
    go_wp2_with fail
    refine q60 _ 97 (by omega) _ _ ?_;rw [f4];obtain ⟨q, hq⟩ : ∃ q, decide ((5 : Int) ∈ (fsOf s m).take 1) = q := ⟨_, rfl⟩;rw [hq];have Hq := lh hq;clear hq
    cases hu : s.a
    ·by_cases hr : m.a = 0
     ·have Hv : Hid (q0g s.a m.a = 0) := by rw [Hid, hu, q0g, if_neg (by simp), if_neg (by simp [hr])]
      have hb : (m.a != 0) = false := by simp [hr]
      have Hr := lh hr;clear hr;go_wp2
      all_goals try (exfalso; omega)
      go_roundg 1
      case measure => omega
      case rel => exact ⟨2, by omega, rfl, rfl, by first | (rw [<- Hq.out]; simp [fsOf, Hv.out]; done) | (simp [fsOf, Hv.out]; done), by have := Hok.out; simp [fsOf, Hv.out] at this ⊢ <;> first | exact this | omega, rfl⟩
     ·have Hv : Hid (q0g s.a m.a = 5) := by rw [Hid, hu, q0g, if_neg (by simp), if_pos hr]
      have hb : (m.a != 0) = true := by simp [hr]
      clear hr;go_wp2
      all_goals try (exfalso; omega)
      go_roundg 1
      case measure => omega
      case rel => exact ⟨2, by omega, rfl, rfl, by first | (rw [<- Hq.out]; simp [fsOf, Hv.out]; done) | (simp [fsOf, Hv.out]; done), by have := Hok.out; simp [fsOf, Hv.out] at this ⊢ <;> first | exact this | omega, rfl⟩
    ·by_cases hr : m.a < 0 ∨ 15 < m.a
     ·have hv : q0g s.a m.a = 3 := by rw [hu, q0g, if_pos rfl, if_pos hr]
      have HR3 : Hid (∀ w', Below w.heap.size w w' -> R (.returned (.int .i64 3)) w') := by
       have := HR.out;rw [if_pos (.inl (by simp [fsOf, hv]))] at this;exact this
      clear hv HR
      by_cases h1 : m.a < 0
      ·go_wp2;exact HR3.out _ Hb3.out
      ·have h2 : 15 < m.a := by omega
       go_wp2
       all_goals exact HR3.out _ Hb3.out
     ·have Hv : Hid (q0g s.a m.a = 0) := by rw [Hid, hu, q0g, if_pos rfl, if_neg hr]
      have h1 : ¬ m.a < 0 := by omega
      have h2 : ¬ 15 < m.a := by omega
      clear hr;go_wp2
      all_goals try (exfalso; omega)
      go_roundg 1
      case measure => omega
      case rel => exact ⟨2, by omega, rfl, rfl, by first | (rw [<- Hq.out]; simp [fsOf, Hv.out]; done) | (simp [fsOf, Hv.out]; done), by have := Hok.out; simp [fsOf, Hv.out] at this ⊢ <;> first | exact this | omega, rfl⟩
   ·have Hok := lh hok;clear hok
    go_wp2_with fail
    refine q60 _ 98 (by omega) _ _ ?_;rw [f5];obtain ⟨q, hq⟩ : ∃ q, decide ((5 : Int) ∈ (fsOf s m).take 2) = q := ⟨_, rfl⟩;rw [hq];have Hq := lh hq;clear hq
    cases hu : s.b
    ·by_cases hr : m.b = 0
     ·have Hv : Hid (q0g s.b m.b = 0) := by rw [Hid, hu, q0g, if_neg (by simp), if_neg (by simp [hr])]
      have hb : (m.b != 0) = false := by simp [hr]
      have Hr := lh hr;clear hr;go_wp2
      all_goals try (exfalso; omega)
      go_roundg 0
      case measure => omega
      case rel => exact ⟨3, by omega, rfl, rfl, by first | (rw [<- Hq.out]; simp [fsOf, Hv.out]; done) | (simp [fsOf, Hv.out]; done), by have := Hok.out; simp [fsOf, Hv.out] at this ⊢ <;> first | exact this | omega, rfl⟩
     ·have Hv : Hid (q0g s.b m.b = 5) := by rw [Hid, hu, q0g, if_neg (by simp), if_pos hr]
      have hb : (m.b != 0) = true := by simp [hr]
      clear hr;go_wp2
      all_goals try (exfalso; omega)
      go_roundg 0
      case measure => omega
      case rel => exact ⟨3, by omega, rfl, rfl, by first | (rw [<- Hq.out]; simp [fsOf, Hv.out]; done) | (simp [fsOf, Hv.out]; done), by have := Hok.out; simp [fsOf, Hv.out] at this ⊢ <;> first | exact this | omega, rfl⟩
    ·by_cases hr : m.b < 0 ∨ 15 < m.b
     ·have hv : q0g s.b m.b = 3 := by rw [hu, q0g, if_pos rfl, if_pos hr]
      have HR3 : Hid (∀ w', Below w.heap.size w w' -> R (.returned (.int .i64 3)) w') := by
       have := HR.out;rw [if_pos (.inl (by simp [fsOf, hv]))] at this;exact this
      clear hv HR
      by_cases h1 : m.b < 0
      ·go_wp2;exact HR3.out _ Hb3.out
      ·have h2 : 15 < m.b := by omega
       go_wp2
       all_goals exact HR3.out _ Hb3.out
     ·have Hv : Hid (q0g s.b m.b = 0) := by rw [Hid, hu, q0g, if_pos rfl, if_neg hr]
      have h1 : ¬ m.b < 0 := by omega
      have h2 : ¬ 15 < m.b := by omega
      clear hr;go_wp2
      all_goals try (exfalso; omega)
      go_roundg 0
      case measure => omega
      case rel => exact ⟨3, by omega, rfl, rfl, by first | (rw [<- Hq.out]; simp [fsOf, Hv.out]; done) | (simp [fsOf, Hv.out]; done), by have := Hok.out; simp [fsOf, Hv.out] at this ⊢ <;> first | exact this | omega, rfl⟩
   ·have ht3 : (fsOf s m).take 3 = fsOf s m := rfl;rw [ht3] at hok ⊢;obtain ⟨q, hq⟩ : ∃ q, decide ((5 : Int) ∈ fsOf s m) = q := ⟨_, rfl⟩;rw [hq]
    have HR' : Hid (∀ w', Below w.heap.size w w' -> R (.returned (.int .i64 (if q09 s.n m.n many = 3 then 3 else if q = true ∨ q09 s.n m.n many = 5 then 5 else 0))) w') := by
     have e : (if (3 : Int) ∈ fsOf s m ∨ q09 s.n m.n many = 3 then (3 : Int) else if (5 : Int) ∈ fsOf s m ∨ q09 s.n m.n many = 5 then 5 else 0) = (if q09 s.n m.n many = 3 then 3 else if q = true ∨ q09 s.n m.n many = 5 then 5 else 0) := by
      simp only [hok, false_or, <- hq, decide_eq_true_eq]
     have := HR.out;rw [e] at this;exact this
    clear HR hok hq ht3 c0 c1 c2;obtain ⟨kd, hkd⟩ : ∃ kd, s.n = kd := ⟨_, rfl⟩;rw [hkd] at HR' f6 f7 f8 f9 f10;clear hkd f3 f4 f5;have Hs := lh (show f.size ≤ 100 from by omega);clear f1
    rcases f10 with rfl | rfl | rfl | rfl | rfl
    ·have g1 : hasN f 110 = false := f6;have g2 : hasN f 116 = false := f7;have g3 : hasN f 119 = false := f8;have g4 : hasN f 114 = false := f9;clear f6 f7 f8 f9
     by_cases hn : m.n = 0
     ·have e : q09 0 m.n many = 0 := by simp [q09, hn]
      rw [e] at HR';have hb : (m.n != 0) = false := by simp [hn]
      have Hn := lh hn;clear hn
      cases q
      ·have HRv : Hid (∀ w', Below w.heap.size w w' -> R (.returned (.int .i64 0)) w') := HR'.out;clear HR'
       go_wp2_with (go_at_call 18; refine q0q f _ (by omega) (by omega) Hs.out _ _ ?_)
       all_goals first | exact HRv.out _ Hb3.out | (exfalso; omega)
      ·have HRv : Hid (∀ w', Below w.heap.size w w' -> R (.returned (.int .i64 5)) w') := HR'.out;clear HR'
       go_wp2_with (go_at_call 18; refine q0q f _ (by omega) (by omega) Hs.out _ _ ?_)
       all_goals first | exact HRv.out _ Hb3.out | (exfalso; omega)
     ·have e : q09 0 m.n many = 5 := by simp [q09, hn]
      rw [e] at HR';have hb : (m.n != 0) = true := by simp [hn]
      clear hn
      cases q
      ·have HRv : Hid (∀ w', Below w.heap.size w w' -> R (.returned (.int .i64 5)) w') := HR'.out;clear HR'
       go_wp2_with (go_at_call 18; refine q0q f _ (by omega) (by omega) Hs.out _ _ ?_)
       all_goals first | exact HRv.out _ Hb3.out | (exfalso; omega)
      ·have HRv : Hid (∀ w', Below w.heap.size w w' -> R (.returned (.int .i64 5)) w') := HR'.out;clear HR'
       go_wp2_with (go_at_call 18; refine q0q f _ (by omega) (by omega) Hs.out _ _ ?_)
       all_goals first | exact HRv.out _ Hb3.out | (exfalso; omega)
    ·have g1 : hasN f 110 = true := f6;have g2 : hasN f 116 = false := f7;have g3 : hasN f 119 = false := f8;have g4 : hasN f 114 = false := f9;clear f6 f7 f8 f9;have e : q09 1 m.n many = 0 := rfl;rw [e] at HR'
     cases q
     ·have HRv : Hid (∀ w', Below w.heap.size w w' -> R (.returned (.int .i64 0)) w') := HR'.out;clear HR'
      go_wp2_with (go_at_call 18; refine q0q f _ (by omega) (by omega) Hs.out _ _ ?_)
      all_goals first | exact HRv.out _ Hb3.out | (exfalso; omega)
     ·have HRv : Hid (∀ w', Below w.heap.size w w' -> R (.returned (.int .i64 5)) w') := HR'.out;clear HR'
      go_wp2_with (go_at_call 18; refine q0q f _ (by omega) (by omega) Hs.out _ _ ?_)
      all_goals first | exact HRv.out _ Hb3.out | (exfalso; omega)
    ·have g1 : hasN f 110 = false := f6;have g2 : hasN f 116 = true := f7;have g3 : hasN f 119 = false := f8;have g4 : hasN f 114 = false := f9;clear f6 f7 f8 f9
     by_cases hn : m.n < 0 ∨ many ≤ m.n
     ·have e : q09 2 m.n many = 3 := by simp [q09, hn]
      rw [e] at HR'
      by_cases h1 : m.n < 0
      ·have HRv : Hid (∀ w', Below w.heap.size w w' -> R (.returned (.int .i64 3)) w') := HR'.out;clear HR'
       go_wp2_with (go_at_call 18; refine q0q f _ (by omega) (by omega) Hs.out _ _ ?_)
       all_goals first | exact HRv.out _ Hb3.out | (exfalso; omega)
      ·have h2 : many ≤ m.n := by omega
       have HRv : Hid (∀ w', Below w.heap.size w w' -> R (.returned (.int .i64 3)) w') := HR'.out;clear HR'
       go_wp2_with (go_at_call 18; refine q0q f _ (by omega) (by omega) Hs.out _ _ ?_)
       all_goals first | exact HRv.out _ Hb3.out | (exfalso; omega)
     ·have e : q09 2 m.n many = 0 := by simp [q09, hn]
      rw [e] at HR';have h1 : ¬ m.n < 0 := by omega
      have h2 : ¬ many ≤ m.n := by omega
      clear hn
      cases q
      ·by_cases hz : m.n = 0
       ·have hb : (m.n != 0) = false := by simp [hz]
        have Hz := lh hz;clear hz;have HRv : Hid (∀ w', Below w.heap.size w w' -> R (.returned (.int .i64 0)) w') := HR'.out;clear HR'
        go_wp2_with (go_at_call 18; refine q0q f _ (by omega) (by omega) Hs.out _ _ ?_)
        all_goals first | exact HRv.out _ Hb3.out | (exfalso; omega)
       ·have hb : (m.n != 0) = true := by simp [hz]
        clear hz;have HRv : Hid (∀ w', Below w.heap.size w w' -> R (.returned (.int .i64 0)) w') := HR'.out;clear HR'
        go_wp2_with (go_at_call 18; refine q0q f _ (by omega) (by omega) Hs.out _ _ ?_)
        all_goals first | exact HRv.out _ Hb3.out | (exfalso; omega)
      ·have HRv : Hid (∀ w', Below w.heap.size w w' -> R (.returned (.int .i64 5)) w') := HR'.out;clear HR'
       go_wp2_with (go_at_call 18; refine q0q f _ (by omega) (by omega) Hs.out _ _ ?_)
       all_goals first | exact HRv.out _ Hb3.out | (exfalso; omega)
    ·have g1 : hasN f 110 = false := f6;have g2 : hasN f 116 = false := f7;have g3 : hasN f 119 = true := f8;have g4 : hasN f 114 = false := f9;clear f6 f7 f8 f9
     by_cases hn : m.n < 0 ∨ 120 ≤ m.n
     ·have e : q09 3 m.n many = 3 := by simp [q09, hn]
      rw [e] at HR'
      by_cases h1 : m.n < 0
      ·have HRv : Hid (∀ w', Below w.heap.size w w' -> R (.returned (.int .i64 3)) w') := HR'.out;clear HR'
       go_wp2_with (go_at_call 18; refine q0q f _ (by omega) (by omega) Hs.out _ _ ?_)
       all_goals first | exact HRv.out _ Hb3.out | (exfalso; omega)
      ·have h2 : 119 < m.n := by omega
       have HRv : Hid (∀ w', Below w.heap.size w w' -> R (.returned (.int .i64 3)) w') := HR'.out;clear HR'
       go_wp2_with (go_at_call 18; refine q0q f _ (by omega) (by omega) Hs.out _ _ ?_)
       all_goals first | exact HRv.out _ Hb3.out | (exfalso; omega)
     ·have e : q09 3 m.n many = 0 := by simp [q09, hn]
      rw [e] at HR';have h1 : ¬ m.n < 0 := by omega
      have h2 : ¬ 119 < m.n := by omega
      clear hn
      cases q
      ·by_cases hz : m.n = 0
       ·have hb : (m.n != 0) = false := by simp [hz]
        have Hz := lh hz;clear hz;have HRv : Hid (∀ w', Below w.heap.size w w' -> R (.returned (.int .i64 0)) w') := HR'.out;clear HR'
        go_wp2_with (go_at_call 18; refine q0q f _ (by omega) (by omega) Hs.out _ _ ?_)
        all_goals first | exact HRv.out _ Hb3.out | (exfalso; omega)
       ·have hb : (m.n != 0) = true := by simp [hz]
        clear hz;have HRv : Hid (∀ w', Below w.heap.size w w' -> R (.returned (.int .i64 0)) w') := HR'.out;clear HR'
        go_wp2_with (go_at_call 18; refine q0q f _ (by omega) (by omega) Hs.out _ _ ?_)
        all_goals first | exact HRv.out _ Hb3.out | (exfalso; omega)
      ·have HRv : Hid (∀ w', Below w.heap.size w w' -> R (.returned (.int .i64 5)) w') := HR'.out;clear HR'
       go_wp2_with (go_at_call 18; refine q0q f _ (by omega) (by omega) Hs.out _ _ ?_)
       all_goals first | exact HRv.out _ Hb3.out | (exfalso; omega)
    ·have g1 : hasN f 110 = false := f6;have g2 : hasN f 116 = false := f7;have g3 : hasN f 119 = false := f8;have g4 : hasN f 114 = true := f9;clear f6 f7 f8 f9
     by_cases hn : m.n < 0
     ·have e : q09 4 m.n many = 3 := by simp [q09, hn]
      rw [e] at HR';have HRv : Hid (∀ w', Below w.heap.size w w' -> R (.returned (.int .i64 3)) w') := HR'.out;clear HR'
      go_wp2_with (go_at_call 18; refine q0q f _ (by omega) (by omega) Hs.out _ _ ?_)
      all_goals first | exact HRv.out _ Hb3.out | (exfalso; omega)
     ·have e : q09 4 m.n many = 0 := by simp [q09, hn]
      rw [e] at HR';have h1 : ¬ m.n < 0 := by omega
      clear hn
      cases q
      ·by_cases hz : m.n = 0
       ·have hb : (m.n != 0) = false := by simp [hz]
        have Hz := lh hz;clear hz;have HRv : Hid (∀ w', Below w.heap.size w w' -> R (.returned (.int .i64 0)) w') := HR'.out;clear HR'
        go_wp2_with (go_at_call 18; refine q0q f _ (by omega) (by omega) Hs.out _ _ ?_)
        all_goals first | exact HRv.out _ Hb3.out | (exfalso; omega)
       ·have hb : (m.n != 0) = true := by simp [hz]
        clear hz;have HRv : Hid (∀ w', Below w.heap.size w w' -> R (.returned (.int .i64 0)) w') := HR'.out;clear HR'
        go_wp2_with (go_at_call 18; refine q0q f _ (by omega) (by omega) Hs.out _ _ ?_)
        all_goals first | exact HRv.out _ Hb3.out | (exfalso; omega)
      ·have HRv : Hid (∀ w', Below w.heap.size w w' -> R (.returned (.int .i64 5)) w') := HR'.out;clear HR'
       go_wp2_with (go_at_call 18; refine q0q f _ (by omega) (by omega) Hs.out _ _ ?_)
       all_goals first | exact HRv.out _ Hb3.out | (exfalso; omega)
theorem q6x (v : Value) (xs : List Mac) (w : World) (h : rpMac.SL w w.heap.size xs v) (R : Ending -> World -> Prop)
 (hR : ∀ w', Below w.heap.size w w' -> R (.returned (.agg #[.int .i64 (q0v xs).1, .int .i64 (q0v xs).2])) w') :
 Calls Tryz.prog 19 #[v] w R := by
 obtain ⟨A, n, rfl, hm, hcap, h⟩ := h.cases_
 by_cases h100 : 5000 < xs.length
 ·rw [show q0v xs = (2, 0) from by rw [q0v, if_pos h100]] at hR;have h100' : (5000 : Int) < (xs.length : Int) := by omega
  go_enter Tryz.func19, Tryz.ntmps19
  go_wp2;refine bodyPost_ret (v := (.agg #[.int .i64 ((2, 0)).1, .int .i64 ((2, 0)).2])) (by simp [results, Tryz.results19, go_sem]) rfl ?_;exact hR _ bl0
 by_cases hnil : xs = []
 ·rw [show q0v xs = (5, 0) from by rw [q0v, if_neg h100, if_pos hnil]] at hR;subst hnil;clear h100;simp only [List.length_nil] at h hcap hm
  go_enter Tryz.func19, Tryz.ntmps19
  go_wp2;refine bodyPost_ret (v := (.agg #[.int .i64 ((5, 0)).1, .int .i64 ((5, 0)).2])) (by simp [results, Tryz.results19, go_sem]) rfl ?_;exact hR _ bl0
 have hpos : 0 < xs.length := List.length_pos_iff.2 hnil;rw [show q0v xs = q1i xs xs.length 0 from by rw [q0v, if_neg h100, if_neg hnil]] at hR;have h100' : ¬ (5000 : Int) < (xs.length : Int) := by omega
 have hnz : ((xs.length : Int) == 0) = false := by simp; omega
 have HR := lh hR;clear hR hnil
 go_enter Tryz.func19, Tryz.ntmps19
 go_wp2
 go_loopg [3] xs.length (fun g i wr => ∃ k : Nat, k ≤ xs.length ∧ g = xs.length - k ∧ i = .int .i64 k ∧ q1i xs (xs.length - k) k = q1i xs xs.length 0 ∧ Below (w.heap.size + 1) (w.alloc (Obj.cells #[Value.int IntKind.i64 0, Value.int IntKind.i64 0] 30)) wr)
 case atStart => exact ⟨0, Nat.zero_le _, rfl, rfl, rfl, Below.refl _ _⟩
 case round =>
  obtain ⟨k, hk, rfl, rfl, ht, hbel⟩ := hrel;have Ht := lh ht;clear ht;have hz0 : w.heap.size < wr.heap.size := by have := hbel.size; simp at this; omega
  have d0 : wr.cell? ⟨w.heap.size, 0, none⟩ = some (.int .i64 0) := by rw [hbel.cell (by simp)]; simp
  have d1 : wr.cell? ⟨w.heap.size, 1, none⟩ = some (.int .i64 0) := by rw [hbel.cell (by simp)]; simp
  have e0 : wr.frozen? ⟨w.heap.size, 0, none⟩ = false := by rw [hbel.frozen (by simp)]; simp
  have e1 : wr.frozen? ⟨w.heap.size, 1, none⟩ = false := by rw [hbel.frozen (by simp)]; simp
  by_cases hlt : k < xs.length
  ·obtain ⟨b, off, m, rfl, hb, e, q0, q1, q2, q3, q4⟩ := h.mac_at hlt;have Hs := lh (qaq e);have key : ∀ o u, w.cell? ⟨b, o, none⟩ = some u -> wr.cell? ⟨b, o, none⟩ = some u := fun o u hu => (hbel.cell (by show b < _; omega)).trans ((World.cell?_alloc_lt _ _ _ hb).trans hu);have p0 := key _ _ q0;have p1 := key _ _ q1;have p2 := key _ _ q2;have p3 := key _ _ q3;have p4 := key _ _ q4;have hb' : b < wr.heap.size := by omega
   clear q0 q1 q2 q3 q4 key e;have i1 := nnn k;have i2 : (k : Int) < (xs.length : Int) := by omega
   go_wp2_with fail
   refine qac m _ _ _ ?_;intro w1 hb1;obtain ⟨hc1, hf1⟩ := bcell hb1;have hz1 : wr.heap.size ≤ w1.heap.size := hb1.size;have hz2 : w.heap.size < w1.heap.size := by omega
   have hbel1 : Below (w.heap.size + 1) (w.alloc (Obj.cells #[Value.int IntKind.i64 0, Value.int IntKind.i64 0] 30)) w1 := hbel.trans (hb1.mono hz0);generalize macF m (xs.length : Int) = c at *
   by_cases hc : c = 0
   ·subst hc;rw [if_neg (by simp)] at Hs;go_wp2
    go_roundg (xs.length - (k + 1))
    case measure => omega
    case rel => exact ⟨k + 1, by omega, rfl, by go_num, by rw [<- Ht.out, Hs.out], hbel1⟩
   ·rw [if_pos hc] at Hs;have hcn : (c != 0) = true := by simp [hc]
    have HR2 : Hid (∀ w', Below w.heap.size w w' -> R (.returned (.agg #[.int .i64 ((c, (k : Int))).1, .int .i64 ((c, (k : Int))).2])) w') := by
     have := HR.out;rw [<- Ht.out, Hs.out] at this;exact this
    clear hc;go_wp2;refine bodyPost_ret (v := (.agg #[.int .i64 ((c, (k : Int))).1, .int .i64 ((c, (k : Int))).2])) (q0m (by rfl) (by rfl) (q55 (a := w.alloc (Obj.cells #[Value.int IntKind.i64 0, Value.int IntKind.i64 0] 30)) (B := w.heap.size + 1) bl0 (Nat.lt_succ_self _) (by simp; rfl) (by simp; rfl) _ _)) rfl ?_;exact HR2.out _ bl0
  ·obtain rfl : k = xs.length := by omega
   obtain ⟨b, off, m, rfl, hb, e, q0, q1, q2, q3, q4⟩ := h.mac_at (k := xs.length - 1) (by omega);have p0 : wr.cell? ⟨b, off + (xs.length - 1) * 5, none⟩ = some (.int .i64 m.op) := (hbel.cell (by show b < _; omega)).trans ((World.cell?_alloc_lt _ _ _ hb).trans q0);have He := lh (qcc e);have i1 : (0 : Int) ≤ (xs.length : Int) - 1 := by omega
   have i3 : (1 : Int) ≤ (xs.length : Int) := by omega
   have i2 : ((xs.length : Int) - 1) < (xs.length : Int) := by omega
   have i4 : ((xs.length : Int) - 1).toNat = xs.length - 1 := by omega
   by_cases h37 : m.op = 37
   ·have b1 : (m.op != 37) = false := by simp [h37]
    have HR2 : Hid (∀ w', Below w.heap.size w w' -> R (.returned (.agg #[.int .i64 ((0, 0)).1, .int .i64 ((0, 0)).2])) w') := by
     have := HR.out;rw [<- Ht.out, He.out, if_pos (.inl h37)] at this;exact this
    clear h37;go_wp2;refine bodyPost_ret (v := (.agg #[.int .i64 ((0, 0)).1, .int .i64 ((0, 0)).2])) (q0m (by rfl) (by rfl) (q55 (a := w.alloc (Obj.cells #[Value.int IntKind.i64 0, Value.int IntKind.i64 0] 30)) (B := w.heap.size + 1) bl0 (Nat.lt_succ_self _) (by simp; rfl) (by simp; rfl) _ _)) rfl ?_;exact HR2.out _ bl0
   ·have b1 : (m.op != 37) = true := by simp [h37]
    by_cases h45 : m.op = 45
    ·have b2 : (m.op != 45) = false := by simp [h45]
     have HR2 : Hid (∀ w', Below w.heap.size w w' -> R (.returned (.agg #[.int .i64 ((0, 0)).1, .int .i64 ((0, 0)).2])) w') := by
      have := HR.out;rw [<- Ht.out, He.out, if_pos (.inr h45)] at this;exact this
     clear h37 h45;go_wp2;refine bodyPost_ret (v := (.agg #[.int .i64 ((0, 0)).1, .int .i64 ((0, 0)).2])) (q0m (by rfl) (by rfl) (q55 (a := w.alloc (Obj.cells #[Value.int IntKind.i64 0, Value.int IntKind.i64 0] 30)) (B := w.heap.size + 1) bl0 (Nat.lt_succ_self _) (by simp; rfl) (by simp; rfl) _ _)) rfl ?_;exact HR2.out _ bl0
    ·have b2 : (m.op != 45) = true := by simp [h45]
     have HR2 : Hid (∀ w', Below w.heap.size w w' -> R (.returned (.agg #[.int .i64 ((5, (xs.length : Int) - 1)).1, .int .i64 ((5, (xs.length : Int) - 1)).2])) w') := by
      have := HR.out;rw [<- Ht.out, He.out, if_neg (by omega)] at this;exact this
     clear h37 h45;go_wp2;refine bodyPost_ret (v := (.agg #[.int .i64 ((5, (xs.length : Int) - 1)).1, .int .i64 ((5, (xs.length : Int) - 1)).2])) (q0m (by rfl) (by rfl) (q55 (a := w.alloc (Obj.cells #[Value.int IntKind.i64 0, Value.int IntKind.i64 0] 30)) (B := w.heap.size + 1) bl0 (Nat.lt_succ_self _) (by simp; rfl) (by simp; rfl) _ _)) rfl ?_;exact HR2.out _ bl0
end Go.Proofs.YtdanebboiekieaaGreatDoor
