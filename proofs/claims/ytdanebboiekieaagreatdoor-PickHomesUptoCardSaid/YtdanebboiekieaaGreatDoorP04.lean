/- The walks, part 4. -/
import Derived.Test.YtdanebboiekieaaGreatDoorP03
import Derived.Laws.AppendOwnNone
import Derived.OwnWalkIn
set_option linter.unusedSimpArgs false
set_option linter.unusedVariables false
set_option maxRecDepth 100000
set_option maxHeartbeats 16000000
namespace Go.Proofs.YtdanebboiekieaaGreatDoor
def q2b (l : List Move) (m : Move) : Bool := !(l.any (fun o => o.src == m.to))
def q03 (spare src : Int) (l : List Move) : List Move := l.map fun m => if m.src = src then ⟨m.to, spare⟩ else m
def rowN (spare : Int) : Nat -> List Move -> List Move
 | 0, _ => []
 | n + 1, l => match l.findIdx? (q2b l) with
   | some i => l.getD i Move.zero :: rowN spare n (l.eraseIdx i)
   | none => if l = [] then [] else ⟨spare, (l.getD 0 Move.zero).src⟩ :: rowN spare n (q03 spare (l.getD 0 Move.zero).src l)
def mu (l : List Move) : Nat := 2 * l.length + (if l.any (q2b l) then 0 else 1)
def Fine (spare : Int) (l : List Move) : Prop := (l.map Move.to).Nodup ∧ ∀ m ∈ l, m.to ≠ spare
theorem q4y {α : Type} [DecidableEq α] : ∀ (xs ys : List α), xs.Nodup -> (∀ x ∈ xs, x ∈ ys) -> ys.length ≤ xs.length -> ∀ y ∈ ys, y ∈ xs
 | [], ys, _, _, hl, y, hy => by
   have : ys = [] := List.eq_nil_of_length_eq_zero (by simpa using hl);subst this
   cases hy
 | x :: xs, ys, hn, hs, hl, y, hy => by
   rw [List.nodup_cons] at hn;have hx : x ∈ ys := hs x (by simp)
   by_cases hxy : y = x
   ·simp [hxy]
   ·have hlen : (ys.erase x).length = ys.length - 1 := List.length_erase_of_mem hx
    have := q4y xs (ys.erase x) hn.2 (fun z hz => by
     rw [List.mem_erase_of_ne (by rintro rfl; exact hn.1 hz)];exact hs z (by simp [hz])) (by simp at hl; omega) y (by rw [List.mem_erase_of_ne hxy]; exact hy)
    simp [this]
theorem q6l (spare : Int) (n : Nat) : rowN spare n [] = [] := by cases n <;> simp [rowN]
theorem q8q {spare : Int} {n i : Nat} {l : List Move} (h : l.findIdx? (q2b l) = some i) : rowN spare (n + 1) l = l.getD i Move.zero :: rowN spare n (l.eraseIdx i) := by rw [rowN, h]
theorem q8p {spare : Int} {n : Nat} {l : List Move} (h : l.findIdx? (q2b l) = none) (hl : l ≠ []) : rowN spare (n + 1) l = ⟨spare, (l.getD 0 Move.zero).src⟩ :: rowN spare n (q03 spare (l.getD 0 Move.zero).src l) := by
 rw [rowN, h];simp only [if_neg hl]
theorem qj8 {i : Nat} {l : List Move} (h : l.findIdx? (q2b l) = some i) : mu (l.eraseIdx i) < mu l ∧ i < l.length ∧ q2b l (l.getD i Move.zero) = true ∧ l.getD i Move.zero ∈ l := by
 obtain ⟨hi, hp, _⟩ := List.findIdx?_eq_some_iff_getElem.1 h;have ha : l.any (q2b l) = true := List.any_eq_true.2 ⟨_, List.getElem_mem hi, hp⟩;have e : l.getD i Move.zero = l[i] := by rw [List.getD_eq_getElem?_getD, List.getElem?_eq_getElem hi]; rfl
 refine ⟨?_, hi, by rw [e]; exact hp, by rw [e]; exact List.getElem_mem hi⟩;unfold mu;rw [ha, List.length_eraseIdx, if_pos hi]
 split <;> simp <;> omega
theorem qhu {spare : Int} {l : List Move} (hf : Fine spare l) (h : l.findIdx? (q2b l) = none) : ∀ m ∈ l, ∃ o ∈ l, o.to = m.src := by
 rw [List.findIdx?_eq_none_iff] at h
 have hs : ∀ x ∈ l.map Move.to, x ∈ l.map Move.src := by
  intro x hx;obtain ⟨m, hm, rfl⟩ := List.mem_map.1 hx;have := h m hm;simp only [q2b, Bool.not_eq_false', List.any_eq_true, beq_iff_eq] at this;obtain ⟨o, ho, e⟩ := this;exact List.mem_map.2 ⟨o, ho, e⟩
 intro m hm;have := q4y (l.map Move.to) (l.map Move.src) hf.1 hs (by simp) m.src (List.mem_map.2 ⟨m, hm, rfl⟩);obtain ⟨o, ho, e⟩ := List.mem_map.1 this;exact ⟨o, ho, e⟩
theorem qa1 (spare src : Int) (l : List Move) : (q03 spare src l).map Move.to = l.map Move.to := by
 unfold q03;rw [List.map_map];apply List.map_congr_left;intro m _;simp only [Function.comp]
 split <;> rfl
theorem q3x (spare src : Int) (l : List Move) : (q03 spare src l).length = l.length := by simp [q03]
theorem q7a {spare src : Int} {l : List Move} (hf : Fine spare l) : Fine spare (q03 spare src l) := by
 refine ⟨by rw [qa1]; exact hf.1, fun m hm => ?_⟩;obtain ⟨o, ho, rfl⟩ := List.mem_map.1 hm
 split
 ·exact hf.2 o ho
 ·exact hf.2 o ho
theorem q9r {spare : Int} {i : Nat} {l : List Move} (hf : Fine spare l) : Fine spare (l.eraseIdx i) := by
 refine ⟨?_, fun m hm => hf.2 m (List.mem_of_mem_eraseIdx hm)⟩;have hs : (l.eraseIdx i).Sublist l := List.eraseIdx_sublist l i;exact (hs.map Move.to).nodup hf.1
theorem qe5 {spare : Int} {l : List Move} (hf : Fine spare l) (h : l.findIdx? (q2b l) = none) (hl : l ≠ []) : mu (q03 spare (l.getD 0 Move.zero).src l) < mu l := by
 have hr := qhu hf h
 have hn : l.any (q2b l) = false := by
  rw [List.findIdx?_eq_none_iff] at h;rw [List.any_eq_false];intro m hm;simp [h m hm]
 obtain ⟨m0, t, rfl⟩ := List.exists_cons_of_ne_nil hl;rw [List.getD_cons_zero];obtain ⟨o, ho, e⟩ := hr m0 (by simp);have hsp : spare ≠ m0.src := fun e' => hf.2 o ho (by rw [e, e'])
 have hfree : (q03 spare m0.src (m0 :: t)).any (q2b (q03 spare m0.src (m0 :: t))) = true := by
  rw [List.any_eq_true];have hmem : o.to ∈ (q03 spare m0.src (m0 :: t)).map Move.to := by rw [qa1]; exact List.mem_map.2 ⟨o, ho, rfl⟩
  obtain ⟨o', ho', e'⟩ := List.mem_map.1 hmem;refine ⟨o', ho', ?_⟩;simp only [q2b, Bool.not_eq_true', List.any_eq_false, beq_iff_eq];intro q hq;obtain ⟨q', _, rfl⟩ := List.mem_map.1 hq;rw [e', e]
  split
  ·exact hsp
  ·assumption
 unfold mu;rw [hn, hfree, q3x];simp
def put (s : Int -> Int) (m : Move) : Int -> Int := fun i => if i = m.to then s m.src else s i
def done (s : Int -> Int) (l : List Move) : Int -> Int := l.foldl put s
def wanted (s : Int -> Int) (l : List Move) (i : Int) : Int := match l.find? (fun m => m.to == i) with
 | some m => s m.src
 | none => s i
end Go.Proofs.YtdanebboiekieaaGreatDoor
namespace Go.Proofs.YtdanebboiekieaaGreatDoor
open Go.RowKit
theorem qij (g : Nat) (t : Int) (w : World) (hg : g < w.heap.size) (hc : w.cell? ⟨g, 0, none⟩ = some (.int .i64 t)) : Asks 112 [.pointer (some ⟨g, 0, none⟩)] (fun o => o.src == t) w := by
 refine ⟨⟨_, Tryz.func112, by kernel_rfl, rfl⟩, fun x W R hW hR => ?_⟩;have hc' : W.cell? ⟨g, 0, none⟩ = some (.int .i64 t) := (hW.cell hg).trans hc;have hg' : g < W.heap.size := by have := hW.size; omega
 clear hW hc
 go_enter Tryz.func112, Tryz.ntmps112
 go_wp2
 first | exact bl0 | exact hR _ bl0
theorem qii (g : Nat) (v : Value) (left : List Move) (w : World) (hg : g < w.heap.size) (hc : w.cell? ⟨g, 0, none⟩ = some v) (h : rpMove.SL w w.heap.size left v) : Asks 110 [.pointer (some ⟨g, 0, none⟩)] (q2b left) w := by
 refine ⟨⟨_, Tryz.func110, by kernel_rfl, rfl⟩, fun x W R hW hR => ?_⟩;have hc' : W.cell? ⟨g, 0, none⟩ = some v := (hW.cell hg).trans hc;have hg' : g < W.heap.size := by have := hW.size; omega
 have h' : rpMove.SL W W.heap.size left v := h.up hW hW.size;clear hW hc h;unfold q2b at hR
 go_enter Tryz.func110, Tryz.ntmps110
 go_wp2_with fail
 refine q5z _ _ (fun o => o.src == x.to) _ left _ (h'.up (w' := W.alloc _) bl0 (by first | omega | (simp; done) | (simp; omega))) (qij _ x.to _ (by simp) (by simp)) _ ?_;intro w1 hb1;generalize left.any (fun o => o.src == x.to) = q at *;go_wp2
 first | exact bl0 | exact hR _ bl0
theorem q6i {w : World} {base g : Nat} {e e' : TypeId} {size n : Nat} {v : Value} {xs : List Value} {cs : Array Value} (h : w.ownsRow base e size v n xs) (hg : w.heap[g]? = some (.cells cs e' (0, 0))) (hne : e ≠ e') : v.ownBlock ≠ some g := by
 rcases h.2 with ⟨rfl, _⟩ | ⟨g', cap, cur, rfl, _, hh, _⟩
 ·simp [Value.ownBlock]
 ·intro he;have : g' = g := by simpa [Value.ownBlock] using he
  subst this;rw [hg] at hh;injection hh with hh
  injection hh with _ ht
  exact hne ht.symm
theorem q3z {w : World} {g j : Nat} {e : TypeId} {cs : Array Value} (h : w.heap[g]? = some (.cells cs e (0, 0))) : w.cell? ⟨g, j, none⟩ = cs[j]? ∧ w.frozen? ⟨g, j, none⟩ = false ∧ g < w.heap.size := by
 refine ⟨by simp [World.cell?, h], by simp [World.frozen?, h], ?_⟩
 rcases Nat.lt_or_ge g w.heap.size with hlt | hge
 ·exact hlt
 ·rw [Array.getElem?_eq_none hge] at h
  cases h
theorem qcs {spare src : Int} {left : List Move} {i : Nat} {m : Move} (h : left[i]? = some m) :
 q03 spare src (left.take (i + 1)) ++ left.drop (i + 1) = (q03 spare src (left.take i) ++ left.drop i).set i (if m.src = src then ⟨m.to, spare⟩ else m) := by
 have hi : i < left.length := (List.getElem?_eq_some_iff.1 h).1;have hm : left[i] = m := by rw [List.getElem?_eq_getElem hi] at h; injection h
 rw [List.drop_eq_getElem_cons hi, hm, List.set_append, if_neg (by simp [q03]; omega), List.take_add_one, h];have : i - (q03 spare src (left.take i)).length = 0 := by simp [q03]; omega
 rw [this, List.set_cons_zero];simp [q03]
theorem qmb {α : Type} {l : List α} {i : Nat} {a : α} (h : l[i]? = some a) : l.set i a = l := by
 apply List.ext_getElem?;intro j;rw [List.getElem?_set]
 split
 ·rename_i e;subst e;rw [if_pos (List.getElem?_eq_some_iff.1 h).1, h]
 ·rfl
theorem qh8 {spare src : Int} {left : List Move} {i : Nat} {m : Move} (h : left[i]? = some m) : (q03 spare src (left.take i) ++ left.drop i)[i]? = some m := by
 have hi : i < left.length := (List.getElem?_eq_some_iff.1 h).1;rw [List.getElem?_append_right (by simp [q03]; omega), List.getElem?_drop, show i + (i - (q03 spare src (left.take i)).length) = i from by simp [q03]; omega];exact h
theorem q5t {spare src : Int} {left : List Move} {i : Nat} : (q03 spare src (left.take i) ++ left.drop i).length = left.length := by
 simp [q03];omega
theorem qbv {X : List Move} {i : Nat} {m : Move} (h : X[i]? = some m) (s : Int) : (X.flatMap Move.cells).take (i * 2 + 1) ++ [.int .i64 s] ++ (X.flatMap Move.cells).drop (i * 2 + 1 + 1) = (X.set i ⟨m.to, s⟩).flatMap Move.cells := by
 have hi : i < X.length := (List.getElem?_eq_some_iff.1 h).1;have e := qf6 Move.cells 2 Move.cells_length X i ⟨m.to, s⟩ hi;have g := Rp.flat_get Move.cells 2 Move.cells_length X i 0 m h (by omega);rw [<- e, List.take_add_one, show i * 2 = i * 2 + 0 from rfl, g];simp [Move.cells]
theorem qab (v : Value) (xs : List Move) (spare : Int) (w : World) (h : rpMove.SL w w.heap.size xs v) (hn : xs.length ≤ 1000) (hf : Fine spare (xs.filter (fun m => !(m.to == m.src)))) (R : Ending -> World -> Prop)
 (hR : ∀ w' v' n, mu (xs.filter (fun m => !(m.to == m.src))) ≤ n -> Below w.heap.size w w' -> w'.ownsRow w.heap.size 81 2 v' (rowN spare n (xs.filter (fun m => !(m.to == m.src)))).length ((rowN spare n (xs.filter (fun m => !(m.to == m.src)))).flatMap Move.cells) -> R (.returned v') w') :
 Calls Tryz.prog 88 #[v, .int .i64 spare] w R := by
 obtain ⟨i0, hi, hz0, hz1, hz2⟩ := info_parts q4r;generalize hL : xs.filter (fun m => !(m.to == m.src)) = left0 at *;have hl0 : left0.length ≤ 1000 := by rw [<- hL]; exact Nat.le_trans (List.length_filter_le _ _) hn
 obtain ⟨HL, HR⟩ := lh2 hL hR;clear hL hR
 go_enter Tryz.func88, Tryz.ntmps88
 go_wp2_with fail
 refine qda _ xs _ h (by omega) _ ?_;intro w1 v1 hb1 ho1
 go_wp2_with fail
 refine q7k _ (fun m => m.to == m.src) _ xs _ _ ho1 (by omega) qk0 _ ?_;intro w2 v2 hg2 ho2;rw [HL.out] at ho2;have hb2 : Below w.heap.size w w2 := hb1.grown hg2 hb1.size (fun k hk => (ho1.lt k hk).1);obtain ⟨A0, c0, rfl⟩ := qj ho2;have hw2 : w.heap.size ≤ w2.heap.size := hb2.size;obtain ⟨Ho2, Hb2⟩ := lh2 ho2 hb2;clear hg2 ho1 hb1 ho2 hb2 h;go_wp2
 go_loopg [6] (mu left0) (fun k u wr => ∃ (left out : List Move) (A : Option Addr) (c m : Nat), k = mu left ∧ mu left ≤ m ∧ out ++ rowN spare m left = rowN spare (mu left0) left0 ∧ Fine spare left ∧ out.length + mu left ≤ mu left0 ∧
  wr.heap[w2.heap.size]? = some (.cells #[.slice A left.length c] 76 (0, 0)) ∧ wr.ownsRow w.heap.size 81 2 (.slice A left.length c) left.length (left.flatMap Move.cells) ∧ wr.ownsRow w.heap.size 81 2 u out.length (out.flatMap Move.cells) ∧
  (∀ g, (Value.slice A left.length c).ownBlock = some g -> u.ownBlock ≠ some g) ∧ Below w.heap.size w wr)
 case atStart =>
  have ho := Ho2.out.alloc (.cells #[.slice A0 left0.length c0] 76);refine ⟨left0, [], A0, c0, mu left0, rfl, Nat.le_refl _, rfl, hf, by simp, ?_, ?_, ?_, ?_, ?_⟩
  ·exact heap_alloc_new w2 _
  ·exact ho
  ·exact World.ownsRow_nil _ _ _ _
  ·intro g _ e;simp [Value.ownBlock] at e
  ·exact Hb2.out.alloc hw2 _
 case round =>
  obtain ⟨left, out, A, c, m, rfl, hmu, htot, hfine, hsize, hL, hown, hout, hsep, hbel⟩ := hrel;obtain ⟨hLc, hLf, hLs⟩ := q3z (j := 0) hL;have hm0 : mu left0 ≤ 2001 := by unfold mu; split <;> omega
  by_cases hemp : left = []
  ·subst hemp;rw [q6l, List.append_nil] at htot;have hlc : wr.cell? ⟨w2.heap.size, 0, none⟩ = some (.slice A 0 c) := hLc;have Ht := lh htot;have Hx : Hid (Below w.heap.size w wr ∧ wr.ownsRow w.heap.size 81 2 u6 out.length (out.flatMap Move.cells)) := ⟨hbel, hout⟩;clear htot hLc hL hown hout hsep hbel;go_wp2;refine HR.out _ _ _ (Nat.le_refl _) Hx.out.1 ?_;rw [<- Ht.out];exact Hx.out.2
  ·have hll : 2 * left.length ≤ mu left := by unfold mu; omega
   have hpos : 0 < left.length := List.length_pos_iff.2 hemp;have hlc : wr.cell? ⟨w2.heap.size, 0, none⟩ = some (.slice A left.length c) := hLc;have hp1 : (0 : Int) < (left.length : Int) := by omega
   obtain ⟨g, cap, hv, hbg, hgl, hnc, hmx⟩ := q3v hown hpos;injection hv with hv1 _ hv3
   subst hv1 hv3;have hsl : rpMove.SL wr wr.heap.size left (.slice (some ⟨g, 0, none⟩) left.length c) := q1h hown (Nat.le_refl _);have hask := qii w2.heap.size _ left wr hLs hlc hsl;have hidx := q4m _ _ _ _ _ _ hsl hask;have Hidx := lh hidx
   have hgL : g ≠ w2.heap.size := by
    have := q6i hown hL (by decide);intro e;exact this (by simp [Value.ownBlock, e])
   have hsep1 : u6.ownBlock ≠ some g := hsep g rfl;have huL : u6.ownBlock ≠ some w2.heap.size := q6i hout hL (by decide);have Hx : Hid (wr.heap[w2.heap.size]? = some (.cells #[.slice (some ⟨g, 0, none⟩) left.length c] 76 (0, 0)) ∧ wr.ownsRow w.heap.size 81 2 (.slice (some ⟨g, 0, none⟩) left.length c) left.length (left.flatMap Move.cells) ∧ wr.ownsRow w.heap.size 81 2 u6 out.length (out.flatMap Move.cells) ∧ Below w.heap.size w wr) := ⟨hL, hown, hout, hbel⟩;have Ht := lh htot;clear hidx hask hsl hLc hL hown hout hsep hbel htot
   cases hfi : left.findIdx? (q2b left) with
   | some i =>
     obtain ⟨hmul, hil, hfree, hmem⟩ := qj8 hfi;have hid : idx (q2b left) left = (i : Int) := by rw [idx, hfi]
     rw [hid] at Hidx;have Hfi := lh hfi;clear hid hfi hfree
     go_wp2_with fail
     refine Hidx.out _ ?_;intro w3 hb3;obtain ⟨hc3, hf3⟩ := bcell hb3;have hz3 : wr.heap.size ≤ w3.heap.size := hb3.size;have hL3 : w2.heap.size < w3.heap.size := by omega
     have hg3 : g < w3.heap.size := by omega
     obtain ⟨xL, xo, xu, xb⟩ := Hx.out;obtain ⟨b', off', m', hA, _, e', p0, p1⟩ := (q1h xo (Nat.le_refl _)).move_at hil;injection hA with hA
     injection hA with hA1 hA2
     subst hA1 hA2;rw [Nat.zero_add] at p0 p1;have hown3 := q0d xu hb3;have Ho3 := lh (q0d xo hb3);have HL3 := lh (q2h (qw hb3 none) xL (by simp));have Hb3 := lh (xb.trans (hb3.mono xb.size));have E' := lh e';clear xL xo xu xb e';have i1 := nnn i;have i2 : (i : Int) < (left.length : Int) := by omega
     go_wp2_with (at_builtin; refine wpList_append_lies _ rfl _ _ 76 rfl w.heap.size 81 i0 _ 2 16 Tryz.underlying76 hi hz0 hz1 hz2 rfl (by decide) u6 out.length (out.flatMap Move.cells) rfl (hown3.alloc _) ⟨w3.heap.size, 0, none⟩ 1 1 [.int .i64 m'.to, .int .i64 m'.src] rfl rfl ?_ ?_ (by decide) ?_ ?_ ?_ (w3.heap.size + 1) ?_ ?_)
     ·exact World.news_of_block (cs := #[.int .i64 m'.to, .int .i64 m'.src]) (t := 81) (fr := (0, 0)) (heap_alloc_new w3 _)
     ·simp [Value.oneCell']
     ·unfold maxLen; omega
     ·omega
     ·have := Hb3.out.size; simp; omega
     ·simp
     ·intro gg cap w4 hout4 hgrow hat hlt4;have hg4 := (World.grownBy_alloc w3 (.cells #[.int .i64 m'.to, .int .i64 m'.src] 81) u6.ownBlock).trans hgrow;have ho4 := Ho3.out.kept hg4 (.inr (fun e => hsep1 e.symm));have hL4 := q2h hg4 HL3.out huL;have hb4 : Below w.heap.size w w4 := Hb3.out.grown hg4 Hb3.out.size (fun k hk => (hown3.lt k hk).1)
      have hgg : gg ≠ g := by
       rcases hat with h | h
       ·rintro rfl; exact hsep1 h
       ·omega
      have hggL : gg ≠ w2.heap.size := by
       rcases hat with h | h
       ·rintro rfl; exact huL h
       ·omega
      obtain ⟨hlc4, _, hls4⟩ := q3z (j := 0) hL4;have hlc4' : w4.cell? ⟨w2.heap.size, 0, none⟩ = some (.slice (some ⟨g, 0, none⟩) left.length c) := hlc4;obtain ⟨Ho4, HL4, Hout4, Hb4⟩ := lh4 ho4 hL4 hout4 hb4;clear hg4 ho4 hL4 hb4 hgrow hat hout4 hlc4 hown3 hc3 hf3 p0 p1 hlc
      go_wp2_with fail
      refine qba g _ c i left _ w.heap.size Ho4.out rfl hil (by omega) _ ?_;intro w5 hg5 ho5;have hL5 := q2h hg5 HL4.out (by simp; exact hgL);have hout5 := Hout4.out.kept hg5 (.inr (by simp [Value.ownBlock]; exact hgg));have hb5 : Below w.heap.size w w5 := Hb4.out.trans (qdy hg5 hbg Hb4.out.size);obtain ⟨hlc5, hlf5, hls5⟩ := q3z (j := 0) hL5;have hlc5' : w5.cell? ⟨w2.heap.size, 0, none⟩ = some (.slice (some ⟨g, 0, none⟩) left.length c) := hlc5;have hL6 := q0h (j := 0) hL5 (.slice (some ⟨g, 0, none⟩) (left.length - 1) c);have ho6 := ql (p := ⟨w2.heap.size, 0, none⟩) ho5 (by simp [Value.ownBlock]; exact hgL) (.slice (some ⟨g, 0, none⟩) (left.length - 1) c);have hout6 := ql (p := ⟨w2.heap.size, 0, none⟩) hout5 (by simp [Value.ownBlock]; exact hggL) (.slice (some ⟨g, 0, none⟩) (left.length - 1) c);have hb6 := hb5.setCell (p := ⟨w2.heap.size, 0, none⟩) hw2 (.slice (some ⟨g, 0, none⟩) (left.length - 1) c)
      have H6 : Hid ((w5.setCell ⟨w2.heap.size, 0, none⟩ (.slice (some ⟨g, 0, none⟩) (left.length - 1) c)).heap[w2.heap.size]? = some (.cells #[.slice (some ⟨g, 0, none⟩) (left.length - 1) c] 76 (0, 0)) ∧
       (w5.setCell ⟨w2.heap.size, 0, none⟩ (.slice (some ⟨g, 0, none⟩) (left.length - 1) c)).ownsRow w.heap.size 81 2 (.slice (some ⟨g, 0, none⟩) (left.length - 1) c) (left.length - 1) ((left.eraseIdx i).flatMap Move.cells) ∧
       (w5.setCell ⟨w2.heap.size, 0, none⟩ (.slice (some ⟨g, 0, none⟩) (left.length - 1) c)).ownsRow w.heap.size 81 2 (.slice (some ⟨gg, 0, none⟩) (out.length + 1) cap) (out.length + 1) (out.flatMap Move.cells ++ [.int .i64 m'.to, .int .i64 m'.src]) ∧ Below w.heap.size w (w5.setCell ⟨w2.heap.size, 0, none⟩ (.slice (some ⟨g, 0, none⟩) (left.length - 1) c))) := ⟨hL6, ho6, hout6, hb6⟩
      clear hg5 ho5 hL5 hout5 hb5 hL6 ho6 hout6 hb6 hlc5;go_wp2
      go_roundg (mu (left.eraseIdx i))
      case measure => exact hmul
      case rel =>
       have hel : (left.eraseIdx i).length = left.length - 1 := by rw [List.length_eraseIdx, if_pos hil]
       have hgd : left.getD i Move.zero = m' := by rw [List.getD_eq_getElem?_getD, E'.out]; rfl
       obtain ⟨m2, rfl⟩ : ∃ m2, m = m2 + 1 := ⟨m - 1, by omega⟩;have ht := Ht.out;rw [q8q Hfi.out, hgd] at ht;refine ⟨left.eraseIdx i, out ++ [m'], some ⟨g, 0, none⟩, c, m2, rfl, by omega, by rw [<- ht]; simp, q9r hfine, by simp; omega, ?_, ?_, ?_, ?_, H6.out.2.2.2⟩
       ·rw [hel]; exact H6.out.1
       ·rw [hel]; exact H6.out.2.1
       ·rw [List.length_append, List.flatMap_append]; exact H6.out.2.2.1
       ·intro k hk;simp [Value.ownBlock] at hk ⊢;omega
   | none =>
     have hid : idx (q2b left) left = -1 := by rw [idx, hfi]
     rw [hid] at Hidx;have Hfi := lh hfi;clear hid hfi;obtain ⟨m0, hm0'⟩ : ∃ m0, left[0]? = some m0 := ⟨left[0], List.getElem?_eq_getElem hpos⟩;have hgd0 : left.getD 0 Move.zero = m0 := by rw [List.getD_eq_getElem?_getD, hm0']; rfl
     go_wp2_with fail
     refine Hidx.out _ ?_;intro w3 hb3;obtain ⟨hc3, hf3⟩ := bcell hb3;have hz3 : wr.heap.size ≤ w3.heap.size := hb3.size;have hL3 : w2.heap.size < w3.heap.size := by omega
     have hg3 : g < w3.heap.size := by omega
     obtain ⟨xL, xo, xu, xb⟩ := Hx.out;obtain ⟨b', off', m', hA, _, e', p0, p1⟩ := (q1h xo (Nat.le_refl _)).move_at hpos;injection hA with hA
     injection hA with hA1 hA2
     subst hA1 hA2;rw [hm0'] at e';injection e' with e'
     subst e';have p1' : wr.cell? ⟨g, 1, none⟩ = some (.int .i64 m0.src) := by simpa using p1
     have hown3 := q0d xu hb3;have Ho3 := lh (q0d xo hb3);have HL3 := lh (q2h (qw hb3 none) xL (by simp));have Hb3 := lh (xb.trans (hb3.mono xb.size));have Hg0 := lh hgd0;clear xL xo xu xb hm0' hgd0 p0 p1;have i2 : (0 : Int) < (left.length : Int) := by omega
     go_wp2_with (at_builtin; refine wpList_append_lies _ rfl _ _ 76 rfl w.heap.size 81 i0 _ 2 16 Tryz.underlying76 hi hz0 hz1 hz2 rfl (by decide) u6 out.length (out.flatMap Move.cells) rfl (hown3.alloc _) ⟨w3.heap.size, 0, none⟩ 1 1 [.int .i64 spare, .int .i64 m0.src] rfl rfl ?_ ?_ (by decide) ?_ ?_ ?_ (w3.heap.size + 1) ?_ ?_)
     ·exact World.news_of_block (cs := #[.int .i64 spare, .int .i64 m0.src]) (t := 81) (fr := (0, 0)) (heap_alloc_new w3 _)
     ·simp [Value.oneCell']
     ·unfold maxLen; omega
     ·omega
     ·have := Hb3.out.size; simp; omega
     ·simp
     ·intro gg cap w4 hout4 hgrow hat hlt4;have hg4 := (World.grownBy_alloc w3 (.cells #[.int .i64 spare, .int .i64 m0.src] 81) u6.ownBlock).trans hgrow;have ho4 := Ho3.out.kept hg4 (.inr (fun e => hsep1 e.symm));have hL4 := q2h hg4 HL3.out huL;have hb4 : Below w.heap.size w w4 := Hb3.out.grown hg4 Hb3.out.size (fun k hk => (hown3.lt k hk).1)
      have hgg : gg ≠ g := by
       rcases hat with h | h
       ·rintro rfl; exact hsep1 h
       ·omega
      obtain ⟨hlc4, _, hls4⟩ := q3z (j := 0) hL4;have hlc4' : w4.cell? ⟨w2.heap.size, 0, none⟩ = some (.slice (some ⟨g, 0, none⟩) left.length c) := hlc4;obtain ⟨Ho4, HL4, Hout4, Hb4⟩ := lh4 ho4 hL4 hout4 hb4;clear hg4 ho4 hL4 hb4 hgrow hat hout4 hlc4 hown3 hc3 hf3 p1' hlc;go_wp2
      go_loopg [47] left.length (fun k s wx => ∃ i : Nat, i ≤ left.length ∧ k = left.length - i ∧ s = .int .i64 i ∧ wx.heap[w2.heap.size]? = some (.cells #[.slice (some ⟨g, 0, none⟩) left.length c] 76 (0, 0)) ∧
       wx.ownsRow w.heap.size 81 2 (.slice (some ⟨g, 0, none⟩) left.length c) left.length ((q03 spare m0.src (left.take i) ++ left.drop i).flatMap Move.cells) ∧
       wx.ownsRow w.heap.size 81 2 (.slice (some ⟨gg, 0, none⟩) (out.length + 1) cap) (out.length + 1) (out.flatMap Move.cells ++ [.int .i64 spare, .int .i64 m0.src]) ∧ Below w.heap.size w wx)
      case atStart => exact ⟨0, Nat.zero_le _, rfl, rfl, HL4.out, by simpa [q03] using Ho4.out, Hout4.out, Hb4.out⟩
      case round =>
       rename World => wx;obtain ⟨i, hi', rfl, rfl, hLx, hox, hux, hbx⟩ := hrel;obtain ⟨hlcx, _, hlsx⟩ := q3z (j := 0) hLx;have hlcx' : wx.cell? ⟨w2.heap.size, 0, none⟩ = some (.slice (some ⟨g, 0, none⟩) left.length c) := hlcx;have hgx : g < wx.heap.size := (hox.lt g rfl).2;have Hx := lh (And.intro hLx (And.intro hox (And.intro hux hbx)))
       by_cases hlt : i < left.length
       ·have hm := List.getElem?_eq_getElem hlt;generalize left[i] = m1 at *;have hat1 := qh8 (spare := spare) (src := m0.src) hm;have hst := qcs (spare := spare) (src := m0.src) hm;obtain ⟨b', off', m', hA, _, e', q0, q1⟩ := (q1h (xs := q03 spare m0.src (left.take i) ++ left.drop i) (by rw [q5t]; exact hox) (Nat.le_refl _)).move_at (k := i) (by rw [q5t]; exact hlt);injection hA with hA
        injection hA with hA1 hA2
        subst hA1 hA2;rw [hat1] at e';injection e' with e'
        subst e';rw [Nat.zero_add] at q1;obtain ⟨c1, z1⟩ := q48 hox (i * 2 + 1) (by omega);obtain ⟨Hst, Hat⟩ := lh2 hst hat1;clear hLx hox hux hbx hlcx hm hat1 hst q0 c1;have i3 := nnn i;have i4 : (i : Int) < (left.length : Int) := by omega
        by_cases hs : m1.src = m0.src
        ·have hsb : (m1.src == m0.src) = true := by simp [hs]
         obtain ⟨hLx, hox, hux, hbx⟩ := Hx.out
         have ho7 := q1x (vs := [.int .i64 spare]) (o := i * 2 + 1) (m := left.length) hox (by simp; omega) (Nat.le_refl _) ((q03 spare m0.src (left.take (i + 1)) ++ left.drop (i + 1)).flatMap Move.cells) (by
          show List.take _ (_ ++ _ ++ List.drop (i * 2 + 1 + 1) _) = _;rw [qbv Hat.out spare, Hst.out, if_pos hs, List.take_of_length_le];rw [q0e Move.cells 2 Move.cells_length, List.length_set, q5t];exact Nat.le_refl _)
         have hL7 := q2h (q04 wx ⟨g, i * 2 + 1, none⟩ (.int .i64 spare)) hLx (by simp; exact hgL);have hu7 := ql (p := ⟨g, i * 2 + 1, none⟩) hux (by simp [Value.ownBlock]; exact hgg) (.int .i64 spare);have hb7 := hbx.setCell (p := ⟨g, i * 2 + 1, none⟩) hbg (.int .i64 spare);have H7 := lh (And.intro hL7 (And.intro ho7 (And.intro hu7 hb7)));have Hs := lh hs;clear hLx hox hux hbx ho7 hL7 hu7 hb7 hs;go_wp2
         go_roundg (left.length - (i + 1))
         case measure => omega
         case rel => exact ⟨i + 1, by omega, rfl, by go_num, H7.out.1, H7.out.2.1, H7.out.2.2.1, H7.out.2.2.2⟩
        ·have hsb : (m1.src == m0.src) = false := by simp [hs]
         go_wp2
         go_roundg (left.length - (i + 1))
         case measure => omega
         case rel =>
          obtain ⟨hLx, hox, hux, hbx⟩ := Hx.out;refine ⟨i + 1, by omega, rfl, by go_num, hLx, ?_, hux, hbx⟩;rw [Hst.out, if_neg hs, qmb Hat.out];exact hox
       ·obtain rfl : i = left.length := by omega
        clear hLx hox hux hbx hlcx;go_wp2
        go_roundg (mu (q03 spare m0.src left))
        case measure =>
         have := qe5 hfine Hfi.out hemp;rw [Hg0.out] at this;exact this
        case rel =>
         obtain ⟨hLx, hox, hux, hbx⟩ := Hx.out;have hlt := qe5 hfine Hfi.out hemp;obtain ⟨m2, rfl⟩ : ∃ m2, m = m2 + 1 := ⟨m - 1, by omega⟩;have ht := Ht.out;rw [q8p Hfi.out hemp] at ht;rw [Hg0.out] at ht hlt;rw [List.take_length, List.drop_length, List.append_nil] at hox;refine ⟨q03 spare m0.src left, out ++ [⟨spare, m0.src⟩], some ⟨g, 0, none⟩, c, m2, rfl, by omega, by rw [<- ht]; simp, q7a hfine, by simp; omega, ?_, ?_, ?_, ?_, hbx⟩
         ·rw [q3x]; exact hLx
         ·rw [q3x]; exact hox
         ·rw [List.length_append, List.flatMap_append]; exact hux
         ·intro k hk;simp [Value.ownBlock] at hk ⊢;omega
def q3t (l : List Move) : List Move := l.filter fun m => !(m.to == m.src)
theorem q8e {spare : Int} {l : List Move} (h : Fine spare l) : Fine spare (q3t l) :=
 ⟨((List.filter_sublist (l := l) (p := fun m : Move => !(m.to == m.src))).map Move.to).nodup h.1, fun m hm => h.2 m (List.mem_filter.1 hm).1⟩
theorem q5u {spare : Int} : ∀ (n : Nat) (l : List Move), Fine spare l -> mu l ≤ n + 1 -> rowN spare (n + 1) l = rowN spare n l
 | 0, l, _, h => by
   have : l = [] := List.eq_nil_of_length_eq_zero (by unfold mu at h; omega);subst this;rw [q6l, q6l]
 | n + 1, l, hf, h => by
   cases hfi : l.findIdx? (q2b l) with
   | some i =>
     have := (qj8 hfi).1;rw [q8q hfi, q8q hfi, q5u n _ (q9r hf) (by omega)]
   | none =>
     by_cases hl : l = []
     ·subst hl;rw [q6l, q6l]
     ·have := qe5 hf hfi hl;rw [q8p hfi hl, q8p hfi hl, q5u n _ (q7a hf) (by omega)]
theorem qm3 {spare : Int} {l : List Move} (hf : Fine spare l) : ∀ n, mu l ≤ n -> rowN spare n l = rowN spare (mu l) l := by
 intro n hn;obtain ⟨d, rfl⟩ : ∃ d, n = mu l + d := ⟨n - mu l, by omega⟩
 induction d with
 | zero => rfl
 | succ d ih => rw [show mu l + (d + 1) = (mu l + d) + 1 from rfl, q5u _ _ hf (by omega), ih (by omega)]
def row (spare : Int) (l : List Move) : List Move := rowN spare (mu (q3t l)) (q3t l)
end Go.Proofs.YtdanebboiekieaaGreatDoor
namespace Go.Proofs.YtdanebboiekieaaGreatDoor
open Go
def q2z (l : Array Bool) : Nat := l.toList.countP (fun b => !b)
theorem q7h {l : Array Bool} {i : Nat} (h : l.getD i true = false) : q2z (l.setIfInBounds i true) + 1 = q2z l := by
 obtain ⟨l⟩ := l
 have key : ∀ (l : List Bool) (i : Nat), (l[i]?).getD true = false -> (l.set i true).countP (fun b => !b) + 1 = l.countP (fun b => !b) := by
  intro l
  induction l with
  | nil => intro i h; simp at h
  | cons x l ih =>
    intro i h
    cases i with
    | zero =>
      simp at h;subst h;simp [List.countP_cons]
    | succ i =>
      have := ih i (by simpa using h);simp only [List.set_cons_succ, List.countP_cons];omega
 have h' : (l[i]?).getD true = false := by
  simpa [Array.getD_eq_getD_getElem?] using h
 have := key l i h';simpa [q2z] using this
theorem q6w {l : Array Bool} (h : q2z l = 0) (i : Nat) : l.getD i true = true := by
 obtain ⟨l⟩ := l;unfold q2z at h;rw [List.countP_eq_zero] at h;rw [Array.getD_eq_getD_getElem?]
 cases hx : (⟨l⟩ : Array Bool)[i]? with
 | none => rfl
 | some b =>
   have hm : b ∈ l := by
    have : l[i]? = some b := by simpa using hx
    exact List.mem_of_getElem? this
   have := h b hm;simpa using this
theorem qd6 {P : Program} {md : Region.Mode} {ops : Array Oper} {Q : Exit -> Act -> World -> Prop} (I : Array Bool -> Act -> World -> Prop)
 (hs : ∀ l a w i, l.size = ops.size -> I l a w -> i ∈ Region.ready md ops l -> wpOp P ops Q i (fun a' w' => I (l.setIfInBounds i true) a' w') a w)
 (he : ∀ l a w, l.size = ops.size -> I l a w -> (∀ i, i < ops.size -> l.getD i false = true) -> Q .normal a w) (hw : ∀ l : Array Bool, l.size = ops.size -> Region.ready md ops l = [] -> ∀ i, i < ops.size -> l.getD i false = true) :
 ∀ (fuel : Nat) (l : Array Bool) (a : Act) (w : World), l.size = ops.size -> q2z l ≤ fuel -> I l a w -> wpAny P md ops Q fuel l a w
 | 0, l, a, w, hz, hf, h => by
   have hr : Region.ready md ops l = [] := by
    cases hr : Region.ready md ops l with
    | nil => rfl
    | cons i rs =>
      have h1 := (mem_ready.1 (by rw [hr]; exact List.mem_cons_self .. : i ∈ Region.ready md ops l)).1;rw [q6w (by omega)] at h1
      cases h1
   exact ⟨hr, he l a w hz h (hw l hz hr)⟩
 | fuel + 1, l, a, w, hz, hf, h => by
   refine ⟨fun hr => he l a w hz h (hw l hz hr), fun i hi => ?_⟩;have h1 := q7h (mem_ready.1 hi).1;exact wpOp_mono (fun a' w' h' => qd6 I hs he hw fuel _ a' w' (by simpa using hz) (by omega) h') (hs l a w i hz h hi)
theorem q9j {md : Region.Mode} {ops : Array Oper} (hd : ∀ (i : Nat) (o : Oper), ops[i]? = some o -> ∀ e ∈ o.after, Region.binds md e = true -> e.on < i) (l : Array Bool) (hz : l.size = ops.size) (hr : Region.ready md ops l = []) : ∀ i, i < ops.size -> l.getD i false = true := by
 intro i
 induction i using Nat.strongRecOn with
 | _ i ih =>
   intro hi
   cases hb : l.getD i false with
   | true => rfl
   | false =>
     exfalso
     have hl : l.getD i true = false := by
      have hlt : i < l.size := by omega
      simp only [Array.getD_eq_getD_getElem?, Array.getElem?_eq_getElem hlt, Option.getD_some] at hb ⊢;exact hb
     have : i ∈ Region.ready md ops l := mem_ready.2 ⟨hl, ops[i], Array.getElem?_eq_getElem hi, fun e hm hb => ih e.on (hd i _ (Array.getElem?_eq_getElem hi) e hm hb) (by have := hd i _ (Array.getElem?_eq_getElem hi) e hm hb; omega)⟩;rw [hr] at this
     cases this
theorem qb4 {P : Program} {ops : Array Oper} {Q : Exit -> Act -> World -> Prop} {id : Nat} {a : Act} {w : World} (hm : P.follows .mixedOrders = true) (I : Array Bool -> Act -> World -> Prop)
 (h0 : I (Array.replicate ops.size false) a { w with drawn := w.drawn + 1 }) (hd : ∀ (i : Nat) (o : Oper), ops[i]? = some o -> ∀ e ∈ o.after, Region.binds .any e = true -> e.on < i)
 (hs : ∀ l a w i, l.size = ops.size -> I l a w -> i ∈ Region.ready .any ops l -> wpOp P ops Q i (fun a' w' => I (l.setIfInBounds i true) a' w') a w)
 (he : ∀ l a w, l.size = ops.size -> I l a w -> (∀ i, i < ops.size -> l.getD i false = true) -> Q .normal a w) : (Code.region id ops true).wp P Q a w :=
 wp_region_any hm (qd6 I hs he (fun l hz hr => q9j hd l hz hr) _ _ _ _ (by simp) (by
  unfold q2z;exact Nat.le_trans List.countP_le_length (by simp)) h0)
def qex (ops : Array Oper) : Bool := (List.range ops.size).all fun i => match ops[i]? with | some o => o.after.all fun e => !Region.binds .any e || decide (e.on < i) | none => true
theorem qah {ops : Array Oper} (h : qex ops = true) : ∀ (i : Nat) (o : Oper), ops[i]? = some o -> ∀ e ∈ o.after, Region.binds .any e = true -> e.on < i := fun i o ho e he hb => by
 unfold qex at h;rw [List.all_eq_true] at h;have h1 := h i (List.mem_range.2 (Array.getElem?_eq_some_iff.1 ho).1);rw [ho] at h1;simp only [Array.all_eq_true_iff_forall_mem] at h1;have h2 := h1 e he;rw [hb] at h2;simpa using h2
theorem qc1 {l : Array Bool} {i : Nat} (h : l.getD i true = false) : l.getD i false = false := by
 rw [Array.getD_eq_getD_getElem?] at h ⊢
 cases hx : l[i]? with
 | none => rfl
 | some b =>
   rw [hx] at h;exact h
def over (a : Act) (L : List (Nat × Value)) : Act := L.foldl (fun a p => a.put (some p.1) p.2) a
theorem qcl : ∀ (L : List (Nat × Value)) (a : Act) (k : Nat), (∀ p ∈ L, p.1 < a.tmps.size) -> (over a L).tmps[k]? = match L.reverse.find? (fun p => p.1 == k) with | some p => some p.2 | none => a.tmps[k]?
 | [], a, k, _ => rfl
 | p :: L, a, k, hL => by
   have ih := qcl L (a.put (some p.1) p.2) k (fun q hq => by have := hL q (by simp [hq]); simpa [Act.put] using this)
   show (over (a.put (some p.1) p.2) L).tmps[k]? = _;rw [ih, List.reverse_cons, List.find?_append]
   cases hf : L.reverse.find? (fun p => p.1 == k) with
   | some q => rfl
   | none =>
     simp only [Option.none_or, List.find?_cons, List.find?_nil]
     show (a.tmps.setIfInBounds p.1 p.2)[k]? = _
     by_cases hk : p.1 = k
     ·subst hk;have hlt : p.1 < a.tmps.size := hL p (by simp);simp [hlt]
     ·rw [Array.getElem?_setIfInBounds_ne hk, show (p.1 == k) = false from by simpa using hk]
theorem qkw {a a0 : Act} (L : List (Nat × Value)) (hL : ∀ p ∈ L, p.1 < a0.tmps.size) (hd : a.defers = a0.defers) (hs : ∀ p ∈ L, a.tmps[p.1]? = some p.2) (ho : ∀ k, (∀ p ∈ L, p.1 ≠ k) -> a.tmps[k]? = a0.tmps[k]?) : a = over a0 L := by
 have hdf : ∀ (L : List (Nat × Value)) (a : Act), (over a L).defers = a.defers := by
  intro L
  induction L with
  | nil => intro a; rfl
  | cons q L ih2 => intro a; show (over (a.put (some q.1) q.2) L).defers = _; rw [ih2]; rfl
 have ht : a.tmps = (over a0 L).tmps := by
  apply Array.ext_getElem?;intro k;rw [qcl L a0 k hL]
  cases hf : L.reverse.find? (fun p => p.1 == k) with
  | none =>
    refine ho k fun p hp e => ?_;have := List.find?_eq_none.1 hf p (by simpa using hp);simp [e] at this
  | some p =>
    have h1 := List.mem_of_find?_eq_some hf;have h2 := List.find?_some hf;have h3 : p.1 = k := by simpa using h2
    rw [<- h3];exact hs p (by simpa using h1)
 cases a
 cases h : over a0 L
 rw [h] at ht;have := hdf L a0;rw [h] at this;simp only at ht this hd;rw [ht, hd, <- this]
end Go.Proofs.YtdanebboiekieaaGreatDoor
namespace Go.Proofs.YtdanebboiekieaaGreatDoor
open Go.RowKit
structure Grew (X : Nat -> Prop) (w w' : World) : Prop where
 os : w'.os = w.os
 tape : w'.tape = w.tape
 output : w'.output = w.output
 size : w.heap.size ≤ w'.heap.size
 block : ∀ k, k < w.heap.size -> ¬ X k -> w'.heap[k]? = w.heap[k]?
theorem Grew.refl (X : Nat -> Prop) (w : World) : Grew X w w := ⟨rfl, rfl, rfl, Nat.le_refl _, fun _ _ _ => rfl⟩
theorem Grew.trans {X Y : Nat -> Prop} {a b c : World} (h : Grew X a b) (k : Grew Y b c) (hs : ∀ j, j < a.heap.size -> Y j -> X j) : Grew X a c :=
 ⟨k.os.trans h.os, k.tape.trans h.tape, k.output.trans h.output, Nat.le_trans h.size k.size, fun j hj hX => (k.block j (Nat.lt_of_lt_of_le hj h.size) (fun hy => hX (hs j hj hy))).trans (h.block j hj hX)⟩
theorem Grew.more {X Y : Nat -> Prop} {a b : World} (h : Grew X a b) (hs : ∀ j, j < a.heap.size -> X j -> Y j) : Grew Y a b := (Grew.refl Y a).trans h hs
theorem Grew.of_grown {w w' : World} {row : Option Nat} (h : w.grownBy w' row) : Grew (fun k => row = some k) w w' := ⟨h.os, h.tape, h.output, h.size, fun k hk hx => h.block k hk (fun e => hx e.symm)⟩
theorem Grew.of_below {X : Nat -> Prop} {B : Nat} {w w' : World} (h : Below B w w') (hB : ∀ k, B ≤ k -> k < w.heap.size -> X k) : Grew X w w' := ⟨h.os, h.tape, h.output, h.size, fun k hk hX => h.block k (by
 rcases Nat.lt_or_ge k B with hlt | hge
 ·exact hlt
 ·exact absurd (hB k hge hk) hX)⟩
theorem Grew.below {X : Nat -> Prop} {B : Nat} {w w' : World} (h : Grew X w w') (hX : ∀ k, k < B -> ¬ X k) (hB : B ≤ w.heap.size) : Below B w w' := ⟨h.os, h.tape, h.output, h.size, fun k hk => h.block k (by omega) (hX k hk)⟩
theorem Grew.on {X : Nat -> Prop} {a w w' : World} (h : Grew X a w) (hb : Below w.heap.size w w') : Grew X a w' :=
 h.trans (Grew.of_below (X := fun _ => False) hb (fun k h1 h2 => by omega)) (fun _ _ h => h.elim)
theorem Grew.alloc {X : Nat -> Prop} {a w : World} (h : Grew X a w) (o : Obj) : Grew X a (w.alloc o) := h.on ((Below.refl _ _).alloc (Nat.le_refl _) o)
theorem Grew.setCell {X : Nat -> Prop} {a w : World} (h : Grew X a w) (p : Addr) (hp : X p.block ∨ a.heap.size ≤ p.block) (u : Value) : Grew X a (w.setCell p u) :=
 h.trans (Grew.of_grown (q04 w p u)) (fun j hj e => by
  have : p.block = j := Option.some.inj e;subst this
  rcases hp with hp | hp
  ·exact hp
  ·omega)
end Go.Proofs.YtdanebboiekieaaGreatDoor
namespace Go.Proofs.YtdanebboiekieaaGreatDoor
open Go.RowKit
end Go.Proofs.YtdanebboiekieaaGreatDoor
namespace Go.Proofs.YtdanebboiekieaaGreatDoor
open Go.RowKit
end Go.Proofs.YtdanebboiekieaaGreatDoor
namespace Go.Proofs.YtdanebboiekieaaGreatDoor
open Go.RowKit
end Go.Proofs.YtdanebboiekieaaGreatDoor
namespace Go.Proofs.YtdanebboiekieaaGreatDoor
open Go.RowKit
end Go.Proofs.YtdanebboiekieaaGreatDoor
namespace Go.Proofs.YtdanebboiekieaaGreatDoor
open Go.RowKit
end Go.Proofs.YtdanebboiekieaaGreatDoor
namespace Go.Proofs.YtdanebboiekieaaGreatDoor
open Go.RowKit
def vals (a : Act) (k : Nat) : Value := a.tmps.getD k undef
def setVl (val : Nat -> Value) (k : Nat) (v : Value) (j : Nat) : Value := if j = k then v else val j
def don (d : Nat -> Bool) (i k : Nat) : Bool := if k = i then true else d k
theorem q7u {a : Act} {k : Nat} {v : Value} (h : k < a.tmps.size) : vals (a.put (some k) v) = setVl (vals a) k v := by
 funext j
 unfold vals setVl
 show (a.tmps.setIfInBounds k v).getD j undef = _
 show _ = if j = k then v else a.tmps.getD j undef;rw [Array.getD_eq_getD_getElem?, Array.getElem?_setIfInBounds, Array.getD_eq_getD_getElem?]
 by_cases e : k = j
 ·subst e;simp [h]
 ·rw [if_neg e, if_neg (fun h => e h.symm)]
structure Ag (slots : List Nat) (a0 a : Act) : Prop where
 sz : a.tmps.size = a0.tmps.size
 df : a.defers = a0.defers
 ot : ∀ k, k ∉ slots -> a.tmps[k]? = a0.tmps[k]?
 hs : ∀ k ∈ slots, k < a0.tmps.size
theorem Ag.put {slots : List Nat} {a0 a : Act} (h : Ag slots a0 a) {k : Nat} (hk : k ∈ slots) (v : Value) : Ag slots a0 (a.put (some k) v) := by
 refine ⟨by simpa [Act.put] using h.sz, h.df, fun j hj => ?_, h.hs⟩
 show (a.tmps.setIfInBounds k v)[j]? = _;rw [Array.getElem?_setIfInBounds_ne (by rintro rfl; exact hj hk)];exact h.ot j hj
theorem Ag.old {slots : List Nat} {a0 a : Act} (h : Ag slots a0 a) {k : Nat} (hk : k ∉ slots) : vals a k = vals a0 k := by
 unfold vals;rw [Array.getD_eq_getD_getElem?, Array.getD_eq_getD_getElem?, h.ot k hk]
theorem Ag.over {slots : List Nat} {a0 a : Act} (h : Ag slots a0 a) : a = over a0 (slots.map fun k => (k, vals a k)) := by
 refine qkw _ (fun p hp => ?_) h.df (fun p hp => ?_) (fun k hk => h.ot k (fun hm => hk (k, vals a k) (List.mem_map.2 ⟨k, hm, rfl⟩) rfl))
 ·obtain ⟨k, hk, rfl⟩ := List.mem_map.1 hp;exact h.hs k hk
 ·obtain ⟨k, hk, rfl⟩ := List.mem_map.1 hp;have hlt : k < a.tmps.size := by rw [h.sz]; exact h.hs k hk
  show a.tmps[k]? = some (vals a k);unfold vals;rw [Array.getD_eq_getD_getElem?, Array.getElem?_eq_getElem hlt];rfl
theorem qdq {l : Array Bool} {i : Nat} (h : i < l.size) : (fun k => (l.setIfInBounds i true).getD k false) = don (fun k => l.getD k false) i := by
 funext k
 unfold don;simp only [Array.getD_eq_getD_getElem?, Array.getElem?_setIfInBounds]
 by_cases e : k = i
 ·subst e;simp [h]
 ·rw [if_neg (fun h => e h.symm), if_neg e]
def qim (ops : Array Oper) : Bool := ops.all fun o => o.guard.isNone
theorem qin {ops : Array Oper} (h : qim ops = true) : ∀ (i : Nat) (o : Oper), ops[i]? = some o -> o.guard = none := fun i o ho => by
 unfold qim at h;rw [Array.all_eq_true_iff_forall_mem] at h;have := h o (Array.mem_of_getElem? ho)
 cases hg : o.guard with
 | none => rfl
 | some g => rw [hg] at this; cases this
def Aft (slots : List Nat) (a0 : Act) (I : (Nat -> Bool) -> (Nat -> Value) -> World -> Prop) (d : Nat -> Bool) (i : Nat) (a' : Act) (w' : World) : Prop := Ag slots a0 a' ∧ I (don d i) (vals a') w'
theorem qnn {P : Program} {ops : Array Oper} {Q : Exit -> Act -> World -> Prop} {id : Nat} {a0 : Act} {w : World} (hm : P.follows .mixedOrders = true) (slots : List Nat) (I : (Nat -> Bool) -> (Nat -> Value) -> World -> Prop)
 (hd : ∀ (i : Nat) (o : Oper), ops[i]? = some o -> ∀ e ∈ o.after, Region.binds .any e = true -> e.on < i) (hsl : ∀ k ∈ slots, k < a0.tmps.size) (hgd : ∀ (i : Nat) (o : Oper), ops[i]? = some o -> o.guard = none)
 (h0 : I (fun _ => false) (vals a0) w.drew)
 (hs : ∀ (d : Nat -> Bool) a w' i o, ops[i]? = some o -> d i = false -> (∀ e ∈ o.after, Region.binds .any e = true -> d e.on = true) -> Ag slots a0 a -> I d (vals a) w' -> o.wp P a w' (Aft slots a0 I d i) Q)
 (he : ∀ (d : Nat -> Bool) vs w', (∀ i, i < ops.size -> d i = true) -> (∀ k, k ∉ slots -> vs k = vals a0 k) -> I d vs w' -> Q .normal (over a0 (slots.map fun k => (k, vs k))) w') : (Code.region id ops true).wp P Q a0 w := by
 refine qb4 hm (fun l a w' => Ag slots a0 a ∧ I (fun k => l.getD k false) (vals a) w') ⟨⟨rfl, rfl, fun _ _ => rfl, hsl⟩, ?_⟩ hd ?_ ?_
 ·have hf : (fun k => (Array.replicate ops.size false).getD k false) = (fun _ => false) := by
   funext k
   rw [Array.getD_eq_getD_getElem?, Array.getElem?_replicate]
   split <;> rfl
  rw [hf];exact h0
 ·rintro l a w' i hz ⟨hag, H⟩ hi;obtain ⟨hun, o, ho, hall⟩ := mem_ready.1 hi
  have hlt : i < l.size := by
   rw [hz];exact (Array.getElem?_eq_some_iff.1 ho).1
  have := hs (fun k => l.getD k false) a w' i o ho (qc1 hun) (fun e he hb => hall e he hb) hag H;unfold wpOp;simp only [ho];rw [if_pos (by simp [Region.wanted, hgd i o ho])];refine .inl (Oper.wp_mono (fun a' w'' h => ?_) this);rw [qdq hlt];exact h
 ·rintro l a w' hz ⟨hag, H⟩ hall;rw [hag.over];exact he _ _ w' hall (fun k hk => hag.old hk) H
theorem q0l {P : Program} {slots : List Nat} {a0 a : Act} {I : (Nat -> Bool) -> (Nat -> Value) -> World -> Prop} {d : Nat -> Bool} {i k : Nat} {Q : Exit -> Act -> World -> Prop} {o : Oper} {w w' : World} {v : Value} (hag : Ag slots a0 a) (hdst : o.dst = some k) (hk : k ∈ slots)
 (hr : (execOp a.eval o).run P w = .ok (.value v) w') (h : I (don d i) (setVl (vals a) k v) w') : o.wp P a w (Aft slots a0 I d i) Q := by
 unfold Oper.wp;rw [hr]
 show Aft slots a0 I d i (a.put o.dst v) w';rw [hdst];refine ⟨hag.put hk v, ?_⟩;rw [q7u (by rw [hag.sz]; exact hag.hs k hk)];exact h
theorem qfk {P : Program} {slots : List Nat} {a0 a : Act} {I : (Nat -> Bool) -> (Nat -> Value) -> World -> Prop} {d : Nat -> Bool} {i : Nat} {Q : Exit -> Act -> World -> Prop} {o : Oper} {w w' : World} (hag : Ag slots a0 a) (hdst : o.dst = none)
 (hr : (execOp a.eval o).run P w = .ok .skip w') (h : I (don d i) (vals a) w') : o.wp P a w (Aft slots a0 I d i) Q := by
 unfold Oper.wp;rw [hr]
 show Aft slots a0 I d i (a.put o.dst undef) w';rw [hdst];exact ⟨hag, h⟩
theorem q95 {F : Fence} {n : Nat} {P : Program} {md : Region.Mode} {ops : Array Oper} {Q : Exit -> Act -> World -> Prop} (I : Array Bool -> Act -> World -> Prop)
 (hs : ∀ l a w i, l.size = ops.size -> I l a w -> i ∈ Region.ready md ops l -> wpOpIn F n P ops Q i (fun a' w' => I (l.setIfInBounds i true) a' w') a w)
 (he : ∀ l a w, l.size = ops.size -> I l a w -> (∀ i, i < ops.size -> l.getD i false = true) -> Q .normal a w) (hw : ∀ l : Array Bool, l.size = ops.size -> Region.ready md ops l = [] -> ∀ i, i < ops.size -> l.getD i false = true) :
 ∀ (fuel : Nat) (l : Array Bool) (a : Act) (w : World), l.size = ops.size -> q2z l ≤ fuel -> I l a w -> wpAnyIn F n P md ops Q fuel l a w
 | 0, l, a, w, hz, hf, h => by
   have hr : Region.ready md ops l = [] := by
    cases hr : Region.ready md ops l with
    | nil => rfl
    | cons i rs =>
      have h1 := (mem_ready.1 (by rw [hr]; exact List.mem_cons_self .. : i ∈ Region.ready md ops l)).1;rw [q6w (by omega)] at h1
      cases h1
   exact ⟨hr, he l a w hz h (hw l hz hr)⟩
 | fuel + 1, l, a, w, hz, hf, h => by
   refine ⟨fun hr => he l a w hz h (hw l hz hr), fun i hi => ?_⟩;have h1 := q7h (mem_ready.1 hi).1;exact wpOpIn_mono (fun a' w' h' => q95 I hs he hw fuel _ a' w' (by simpa using hz) (by omega) h') (hs l a w i hz h hi)
theorem q7i {ops : Array Oper} {a : Act} {j k : Nat} {o : Oper} (ho : ops[j]? = some o) (hd : o.dst = some k) (hk : k < a.tmps.size) : yielded ops a.tmps j = match vals a k with | .bool b => some b | _ => none := by
 unfold yielded vals;rw [ho, Array.getD_eq_getD_getElem?];simp only [Option.bind_some, hd, Array.getElem?_eq_getElem hk, Option.getD_some]
 cases a.tmps[k] <;> rfl
theorem qz {ops : Array Oper} {o : Oper} {a : Act} (h : o.guard = none) : Region.wanted o (yielded ops a.tmps) = true := by simp [Region.wanted, h]
theorem qhn {ops : Array Oper} {o og : Oper} {a : Act} {j k : Nat} {b : Bool} (h : o.guard = some (j, b)) (ho : ops[j]? = some og) (hd : og.dst = some k) (hk : k < a.tmps.size) {c : Bool} (hv : vals a k = .bool c) : Region.wanted o (yielded ops a.tmps) = (c == b) := by
 unfold Region.wanted;rw [h];simp only [q7i ho hd hk, hv]
 cases c <;> cases b <;> rfl
def StepIn (F : Fence) (n : Nat) (P : Program) (ops : Array Oper) (Q : Exit -> Act -> World -> Prop) (slots : List Nat) (a0 : Act) (I : (Nat -> Bool) -> (Nat -> Value) -> World -> Prop) (d : Nat -> Bool) (i : Nat) (o : Oper) (a : Act) (w : World) : Prop :=
 if Region.wanted o (yielded ops a.tmps) = true then o.wpIn F n P a w (Aft slots a0 I d i) Q else (∀ f, o.about P w a.eval = some f -> F.fn f) ∧ Aft slots a0 I d i (a.put o.dst undef) w
theorem qjo {F : Fence} {n : Nat} {P : Program} {ops : Array Oper} {Q : Exit -> Act -> World -> Prop} {id : Nat} {a0 : Act} {w : World} (hm : P.follows .mixedOrders = true) (slots : List Nat) (I : (Nat -> Bool) -> (Nat -> Value) -> World -> Prop)
 (hd : ∀ (i : Nat) (o : Oper), ops[i]? = some o -> ∀ e ∈ o.after, Region.binds .any e = true -> e.on < i) (hsl : ∀ k ∈ slots, k < a0.tmps.size)
 (h0 : I (fun _ => false) (vals a0) w.drew)
 (hs : ∀ (d : Nat -> Bool) a w' i o, ops[i]? = some o -> d i = false -> (∀ e ∈ o.after, Region.binds .any e = true -> d e.on = true) -> Ag slots a0 a -> I d (vals a) w' -> StepIn F n P ops Q slots a0 I d i o a w')
 (he : ∀ (d : Nat -> Bool) vs w', (∀ i, i < ops.size -> d i = true) -> (∀ k, k ∉ slots -> vs k = vals a0 k) -> I d vs w' -> Q .normal (over a0 (slots.map fun k => (k, vs k))) w') : (Code.region id ops true).wpIn F n P Q a0 w := by
 refine wpIn_region_any hm (q95 (fun l a w' => Ag slots a0 a ∧ I (fun k => l.getD k false) (vals a) w') ?_ ?_ (fun l hz hr => q9j hd l hz hr) _ _ _ _ (by simp) (by
  unfold q2z;exact Nat.le_trans List.countP_le_length (by simp)) ⟨⟨rfl, rfl, fun _ _ => rfl, hsl⟩, ?_⟩)
 ·rintro l a w' i hz ⟨hag, H⟩ hi;obtain ⟨hun, o, ho, hall⟩ := mem_ready.1 hi
  have hlt : i < l.size := by
   rw [hz];exact (Array.getElem?_eq_some_iff.1 ho).1
  have := hs (fun k => l.getD k false) a w' i o ho (qc1 hun) (fun e he hb => hall e he hb) hag H;unfold wpOpIn;simp only [ho];unfold StepIn at this
  by_cases hwn : Region.wanted o (yielded ops a.tmps) = true
  ·rw [if_pos hwn] at this ⊢;refine Oper.wpIn_mono (fun a' w'' h => ?_) this;rw [qdq hlt];exact h
  ·rw [if_neg hwn] at this ⊢;refine ⟨this.1, ?_⟩;rw [qdq hlt];exact this.2
 ·rintro l a w' hz ⟨hag, H⟩ hall;rw [hag.over];exact he _ _ w' hall (fun k hk => hag.old hk) H
 ·have hf : (fun k => (Array.replicate ops.size false).getD k false) = (fun _ => false) := by
   funext k
   rw [Array.getD_eq_getD_getElem?, Array.getElem?_replicate]
   split <;> rfl
  rw [hf];exact h0
theorem qc {F : Fence} {n : Nat} {P : Program} {ops : Array Oper} {slots : List Nat} {a0 a : Act} {I : (Nat -> Bool) -> (Nat -> Value) -> World -> Prop} {d : Nat -> Bool} {i k : Nat} {Q : Exit -> Act -> World -> Prop} {o : Oper} {w w' : World} {v : Value} (hag : Ag slots a0 a) (hdst : o.dst = some k) (hk : k ∈ slots)
 (hwn : Region.wanted o (yielded ops a.tmps) = true) (hab : ∀ f, o.about P w a.eval = some f -> F.fn f) (hc : ∀ c, o.op ≠ .defer c)
 (hr : (execOp a.eval o).run P w = .ok (.value v) w') (h : I (don d i) (setVl (vals a) k v) w') : StepIn F n P ops Q slots a0 I d i o a w := by
 unfold StepIn;rw [if_pos hwn];unfold Oper.wpIn;refine ⟨hab, ?_⟩;rw [Oper.semAt_plain F _ _ hc, hr]
 show Aft slots a0 I d i (a.put o.dst v) w';rw [hdst];refine ⟨hag.put hk v, ?_⟩;rw [q7u (by rw [hag.sz]; exact hag.hs k hk)];exact h
theorem qg {F : Fence} {n : Nat} {P : Program} {ops : Array Oper} {slots : List Nat} {a0 a : Act} {I : (Nat -> Bool) -> (Nat -> Value) -> World -> Prop} {d : Nat -> Bool} {i k : Nat} {Q : Exit -> Act -> World -> Prop} {o : Oper} {w : World} (hag : Ag slots a0 a) (hdst : o.dst = some k) (hk : k ∈ slots)
 (hwn : Region.wanted o (yielded ops a.tmps) = false) (hab : ∀ f, o.about P w a.eval = some f -> F.fn f)
 (h : I (don d i) (setVl (vals a) k undef) w) : StepIn F n P ops Q slots a0 I d i o a w := by
 unfold StepIn;rw [if_neg (by rw [hwn]; decide)];refine ⟨hab, ?_⟩;rw [hdst];refine ⟨hag.put hk undef, ?_⟩;rw [q7u (by rw [hag.sz]; exact hag.hs k hk)];exact h
theorem q4x {F : Fence} {n : Nat} {P : Program} {ops : Array Oper} {slots : List Nat} {a0 a : Act} {I : (Nat -> Bool) -> (Nat -> Value) -> World -> Prop} {d : Nat -> Bool} {i k : Nat} {Q : Exit -> Act -> World -> Prop} {o : Oper} {w : World} {l : Nat} {fn : FuncId} {tmps : Array Value} {asg body : Code} {R : Ending -> World -> Prop} (hag : Ag slots a0 a) (hdst : o.dst = some k) (hk : k ∈ slots)
 (hwn : Region.wanted o (yielded ops a.tmps) = true) (hab : ∀ f, o.about P w a.eval = some f -> F.fn f) (hc : ∀ c, o.op ≠ .defer c) (hdp : F.depth.isSome = true -> 1 ≤ n)
 (hr : (execOp a.eval o).run P w = .ok (.round l fn tmps asg body) w) (hR : RoundIn F (n - 1) P l fn tmps asg body w R) (h : ∀ e w', R e w' -> ∃ v, e = .returned v ∧ I (don d i) (setVl (vals a) k v) w') : StepIn F n P ops Q slots a0 I d i o a w := by
 unfold StepIn;rw [if_pos hwn];unfold Oper.wpIn;refine ⟨hab, ?_⟩;rw [Oper.semAt_plain F _ _ hc, hr];refine ⟨hdp, hR.mono fun e w' he => ?_⟩;obtain ⟨v, rfl, hI⟩ := h e w' he
 show Aft slots a0 I d i (a.put o.dst v) w';rw [hdst];refine ⟨hag.put hk v, ?_⟩;rw [q7u (by rw [hag.sz]; exact hag.hs k hk)];exact hI
end Go.Proofs.YtdanebboiekieaaGreatDoor
