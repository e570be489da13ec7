/- The walks, part 7. -/
import Derived.Test.YtdanebboiekieaaGreatDoorP06
set_option linter.unusedSimpArgs false
set_option linter.unusedVariables false
set_option maxRecDepth 100000
set_option maxHeartbeats 16000000
namespace Go.Proofs.YtdanebboiekieaaGreatDoor
open Go.RowKit Go.Shelf
inductive DMarks (n₀ : Nat) (w : World) : List Deferred -> Prop
 | nil : DMarks n₀ w []
 | cons {D : Nat} {ds : List Deferred} : n₀ ≤ D -> w.heap[D]? = some (.deferred (some [])) -> (∀ d ∈ ds, d.target ≠ .collected D) -> DMarks n₀ w ds -> DMarks n₀ w ({ target := .collected D, args := #[] } :: ds)
theorem DMarks.keep {n₀ : Nat} {w w' : World} {ds : List Deferred} (h : DMarks n₀ w ds) (hk : ∀ D, n₀ ≤ D -> w.heap[D]? = some (.deferred (some [])) -> (∃ d ∈ ds, d.target = .collected D) -> w'.heap[D]? = some (.deferred (some []))) : DMarks n₀ w' ds := by
 induction h with
 | nil => exact .nil
 | @cons D ds h1 h2 h3 _ ih => exact .cons h1 (hk _ h1 h2 ⟨{ target := .collected D, args := #[] }, List.mem_cons_self, rfl⟩) h3 (ih fun D k1 k2 ⟨d, hd, e⟩ => hk D k1 k2 ⟨d, by simp [hd], e⟩)
theorem DMarks.onto {n₀ : Nat} {w w' : World} {ds : List Deferred} (h : DMarks n₀ w ds) (hb : Below w.heap.size w w') : DMarks n₀ w' ds := h.keep fun D _ h2 _ => (hb.block _ (Array.getElem?_eq_some_iff.1 h2).1).trans h2
theorem DMarks.grown {n₀ g : Nat} {w w' : World} {ds : List Deferred} (h : DMarks n₀ w ds) (hg : w.grownBy w' (some g)) (hc : ∀ x, w.heap[g]? ≠ some (.deferred x)) : DMarks n₀ w' ds :=
 h.keep fun D _ h2 _ => (hg.block D (Array.getElem?_eq_some_iff.1 h2).1 (fun e => by
  have : D = g := Option.some.inj e;subst this;exact hc _ h2)).trans h2
theorem DMarks.row {n₀ : Nat} {w w' : World} {ds : List Deferred} {row : Option Nat} (h : DMarks n₀ w ds) (hg : w.grownBy w' row) (hc : ∀ k, row = some k -> ∃ A T fr, w.heap[k]? = some (.cells A T fr)) : DMarks n₀ w' ds :=
 h.keep fun D _ h2 _ => (hg.block D (Array.getElem?_eq_some_iff.1 h2).1 (fun e => by
  obtain ⟨A, T, fr, h3⟩ := hc D e.symm;rw [h2] at h3;injection h3 with h3
  cases h3)).trans h2
theorem DMarks.lt {n₀ : Nat} {w : World} {ds : List Deferred} (h : DMarks n₀ w ds) : ∀ d ∈ ds, ∃ D, d.target = .collected D ∧ D < w.heap.size := by
 induction h with
 | nil => intro d hd; cases hd
 | cons h1 h2 h3 _ ih =>
   intro d hd
   rcases List.mem_cons.1 hd with rfl | hd
   ·exact ⟨_, rfl, (Array.getElem?_eq_some_iff.1 h2).1⟩
   ·exact ih d hd
theorem DMarks.push {n₀ D : Nat} {w0 w : World} {ds : List Deferred} (h0 : DMarks n₀ w0 ds) (h : DMarks n₀ w ds) (hn : n₀ ≤ w0.heap.size) (hD : w0.heap.size ≤ D) (hK : w.heap[D]? = some (.deferred (some []))) : DMarks n₀ w ({ target := .collected D, args := #[] } :: ds) :=
 .cons (by omega) hK (fun d hd e => by
  obtain ⟨D', e', hl⟩ := h0.lt d hd;rw [e] at e';injection e' with e'
  omega) h
structure Shut (n₀ : Nat) (w w' : World) : Prop where
 bel : Below n₀ w w'
 size : w'.heap.size = w.heap.size
 cells : ∀ (k : Nat) (o : Obj), w.heap[k]? = some o -> (∀ x, o ≠ .deferred x) -> w'.heap[k]? = some o
theorem Shut.cell {n₀ : Nat} {w w' : World} (h : Shut n₀ w w') {p : Addr} {u : Value} (hp : w.cell? p = some u) : w'.cell? p = some u := by
 unfold World.cell? at hp ⊢
 cases hx : w.heap[p.block]? with
 | none => rw [hx] at hp; cases hp
 | some o =>
   cases o with
   | cells A T fr => rw [h.cells _ _ hx (fun x e => by cases e)]; rw [hx] at hp; exact hp
   | _ => rw [hx] at hp; cases hp
theorem q1v {n₀ n : Nat} {P : Program} {fn : Func} {tmps : Array Value} {R : Ending -> World -> Prop} : ∀ {ds : List Deferred} {w : World}, n₀ ≤ w.heap.size -> DMarks n₀ w ds ->
 (∀ w', Shut n₀ w w' -> ∃ v, (results fn tmps).run P w' = .ok v w' ∧ R (.returned v) w') -> LeavesInM Fence.wide n P fn tmps R ds .returning w
 | [], w, hn, _, h => by
   have := h w ⟨Below.refl _ _, rfl, fun _ _ h _ => h⟩;exact this
 | d :: ds, w, hn, hM, h => by
   cases hM with
   | @cons D _ h1 h2 h3 h4 =>
     have hlt := (Array.getElem?_eq_some_iff.1 h2).1;have hg := grownBy_putObj' w D (.deferred none);have hsz : (w.putObj D (.deferred none)).heap.size = w.heap.size := by simp [World.putObj]
     refine ⟨by simp, .inl ⟨D, w.putObj D (.deferred none), rfl, run_takeDeferred h2, ?_⟩⟩;refine q1v (by rw [hsz]; exact hn) (h4.keep fun D' k1 k2 ⟨d, hd, e⟩ => ?_) fun w' hs => h w' ⟨?_, hs.size.trans hsz, fun k o hk ho => hs.cells k o ?_ ho⟩
     ·refine (hg.block D' (Array.getElem?_eq_some_iff.1 k2).1 (fun e' => ?_)).trans k2;have : D' = D := Option.some.inj e';subst this;exact h3 d hd e
     ·exact ((Below.refl n₀ w).grown hg hn (fun k e => by cases e; exact h1)).trans hs.bel
     ·refine (hg.block k (Array.getElem?_eq_some_iff.1 hk).1 (fun e => ?_)).trans hk;have : k = D := Option.some.inj e;subst this;rw [h2] at hk;injection hk with hk
      exact ho _ hk.symm
end Go.Proofs.YtdanebboiekieaaGreatDoor
namespace Go.Proofs.YtdanebboiekieaaGreatDoor
open Go.RowKit Go.Shelf
attribute [local go_sem] Oper.semAt_some
def insC (x : UIns) (va : Value) : Array Value := #[.int .i64 x.op, .int .i64 x.dst, .bool x.a.reg, .int .i64 x.a.n, .bool x.b.reg, .int .i64 x.b.n, .int .i64 x.fn, va]
def InsRow (l : List UIns) (F : Nat -> Value) (b0 : Nat) (A : Option Addr) (W : World) : Prop := ∀ j (h : j < l.length), ∃ b off, A = some ⟨b, off, none⟩ ∧ b < b0 ∧ rpVal.SL W b0 l[j].args (F j) ∧
 W.cell? ⟨b, off + j * 8, none⟩ = some (.int .i64 l[j].op) ∧ W.cell? ⟨b, off + j * 8 + 1, none⟩ = some (.int .i64 l[j].dst) ∧ W.cell? ⟨b, off + j * 8 + 2, none⟩ = some (.bool l[j].a.reg) ∧ W.cell? ⟨b, off + j * 8 + 3, none⟩ = some (.int .i64 l[j].a.n) ∧
 W.cell? ⟨b, off + j * 8 + 4, none⟩ = some (.bool l[j].b.reg) ∧ W.cell? ⟨b, off + j * 8 + 5, none⟩ = some (.int .i64 l[j].b.n) ∧ W.cell? ⟨b, off + j * 8 + 6, none⟩ = some (.int .i64 l[j].fn) ∧ W.cell? ⟨b, off + j * 8 + 7, none⟩ = some (F j)
theorem q6d {l : List UIns} {A : Option Addr} {n c b0 : Nat} {W : World} (h : rpIns.SL W b0 l (.slice A n c)) : ∃ F, InsRow l F b0 A W := by
 have key : ∀ j, ∃ v : Value, ∀ (hj : j < l.length), ∃ b off, A = some ⟨b, off, none⟩ ∧ b < b0 ∧ rpVal.SL W b0 l[j].args v ∧
  W.cell? ⟨b, off + j * 8, none⟩ = some (.int .i64 l[j].op) ∧ W.cell? ⟨b, off + j * 8 + 1, none⟩ = some (.int .i64 l[j].dst) ∧ W.cell? ⟨b, off + j * 8 + 2, none⟩ = some (.bool l[j].a.reg) ∧ W.cell? ⟨b, off + j * 8 + 3, none⟩ = some (.int .i64 l[j].a.n) ∧
  W.cell? ⟨b, off + j * 8 + 4, none⟩ = some (.bool l[j].b.reg) ∧ W.cell? ⟨b, off + j * 8 + 5, none⟩ = some (.int .i64 l[j].b.n) ∧ W.cell? ⟨b, off + j * 8 + 6, none⟩ = some (.int .i64 l[j].fn) ∧ W.cell? ⟨b, off + j * 8 + 7, none⟩ = some v := fun j => by
  by_cases hj : j < l.length
  ·obtain ⟨b, off, v, hA, hb, hv, h0, h1, h2, h3, h4, h5, h6, h7⟩ := h.ins_at hj;exact ⟨v, fun _ => ⟨b, off, hA, hb, hv, h0, h1, h2, h3, h4, h5, h6, h7⟩⟩
  ·exact ⟨undef, fun h => absurd h hj⟩
 exact ⟨fun j => Classical.choose (key j), fun j hj => Classical.choose_spec (key j) hj⟩
theorem InsRow.keep {l : List UIns} {F : Nat -> Value} {b0 g : Nat} {A : Option Addr} {W W' : World} (h : InsRow l F b0 A W) (hk : CKeep g W W') (hle : b0 ≤ g) : InsRow l F b0 A W' := fun j hj => by
 obtain ⟨b, off, hA, hb, hv, h0, h1, h2, h3, h4, h5, h6, h7⟩ := h j hj;have key : ∀ {o : Nat} {u : Value}, W.cell? ⟨b, o, none⟩ = some u -> W'.cell? ⟨b, o, none⟩ = some u := fun hc => hk.cell hc (by show b ≠ g; omega);exact ⟨b, off, hA, hb, hv.mono (fun p u hp hc => hk.cell hc (by omega)), key h0, key h1, key h2, key h3, key h4, key h5, key h6, key h7⟩
theorem InsRow.up {l : List UIns} {F : Nat -> Value} {b0 : Nat} {A : Option Addr} {W W' : World} (h : InsRow l F b0 A W) (hb : Below b0 W W') : InsRow l F b0 A W' := fun j hj => by
 obtain ⟨b, off, hA, hlt, hv, h0, h1, h2, h3, h4, h5, h6, h7⟩ := h j hj;have key : ∀ {o : Nat} {u : Value}, W.cell? ⟨b, o, none⟩ = some u -> W'.cell? ⟨b, o, none⟩ = some u := fun hc => (hb.cell (p := ⟨b, _, none⟩) hlt).trans hc;exact ⟨b, off, hA, hlt, hv.below hb, key h0, key h1, key h2, key h3, key h4, key h5, key h6, key h7⟩
theorem q7b {α : Type} : ∀ {l m : List α}, l.map some = m.map some -> l = m
 | [], [], _ => rfl
 | [], y :: m, h => by simp at h
 | x :: l, [], h => by simp at h
 | x :: l, y :: m, h => by
   simp only [List.map_cons, List.cons.injEq, Option.some.injEq] at h;rw [h.1, q7b h.2]
theorem qez {l : List UIns} {ys : List (Fin l.length)} (h : ys.map (fun j : Fin l.length => j.1) = (List.range l.length).reverse) : ys.map (fun j : Fin l.length => l[j.1]) = l.reverse := by
 have e1 : (ys.map (fun j : Fin l.length => l[j.1])).map some = (ys.map (fun j : Fin l.length => j.1)).map fun k => l[k]? := by
  rw [List.map_map, List.map_map];apply List.map_congr_left;intro j _;simp
 have e2 : (List.range l.length).map (fun k => l[k]?) = l.map some := by
  apply List.ext_getElem
  ·simp
  ·intro i h1 h2;simp at h1 h2;simp [h2]
 have e3 : (ys.map (fun j : Fin l.length => l[j.1])).map some = l.reverse.map some := by
  rw [e1, h, List.map_reverse, e2, List.map_reverse]
 exact q7b e3
structure BackNeed (l : List UIns) (F : Nat -> Value) (A : Option Addr) (c Bs b0 g : Nat) (W : World) : Prop where
 box : W.heap[Bs]? = some (.cells #[.slice A l.length c] 62 (0, 0))
 row : InsRow l F b0 A W
 ne : Bs ≠ g
 le : b0 ≤ g
 lt : g < W.heap.size
theorem BackNeed.keep {l : List UIns} {F : Nat -> Value} {A : Option Addr} {c Bs b0 g : Nat} {W W' : World} (h : BackNeed l F A c Bs b0 g W) (hk : CKeep g W W') : BackNeed l F A c Bs b0 g W' :=
 ⟨hk.blk h.box h.ne, h.row.keep hk h.le, h.ne, h.le, Nat.lt_of_lt_of_le h.lt hk.1⟩
def encB (l : List UIns) (F : Nat -> Value) (j : Fin l.length) : Array Value := #[.int .i64 (j.1 : Int), .agg (insC l[j.1] (F j.1))]
theorem q9d {n k : Nat} (h : k < n) : ((List.range n).drop (k + 1)).reverse ++ [k] = ((List.range n).drop k).reverse := by
 have : (List.range n).drop k = k :: (List.range n).drop (k + 1) := by
  rw [List.drop_eq_getElem_cons (by simpa using h)];simp
 rw [this];simp
theorem qld {n : Nat} {ys : List (Fin n)} {l : List Nat} (h : ys.map (fun j : Fin n => j.1) = l) : ys.length = l.length := by rw [<- h, List.length_map]
theorem qko (n : Nat) (hn : 1 ≤ n) (lp Bs b0 g : Nat) (l : List UIns) (F : Nat -> Value) (A : Option Addr) (c : Nat) (hmx : l.length ≤ maxLen) (J Jx : List (Fin l.length) -> World -> Prop)
 (hY : ∀ (pre : List (Fin l.length)) (j : Fin l.length) W, J pre W -> pre.length < l.length -> YieldAt Fence.wide (n - 1) Tryz.prog lp (encB l F j) W fun e W' => (e = .returned (.bool true) ∧ J (pre ++ [j]) W' ∧ CKeep g W W') ∨ (e = .returned (.bool false) ∧ Jx (pre ++ [j]) W'))
 (W : World) (hN : BackNeed l F A c Bs b0 g W) (h0 : J [] W) :
 CallsIn Fence.wide n Tryz.prog 129 #[.func (.yield lp) #[] #[], .pointer (some ⟨Bs, 0, none⟩)] W fun e W' => (∃ v, e = .returned v) ∧
  ((∃ ys : List (Fin l.length), ys.map (fun j : Fin l.length => j.1) = (List.range l.length).reverse ∧ J ys W') ∨ (∃ pre : List (Fin l.length), True ∧ Jx pre W')) := by
 obtain ⟨HY, HN, H0⟩ := lh3 hY hN h0;unfold maxLen at hmx;clear hY h0;have x0 : W.cell? ⟨Bs, 0, none⟩ = some (.slice A l.length c) := by rw [qb hN.box]; rfl
 have lx := qa hN.box;clear hN;refine callsIn_of_wp Tryz.func129 rfl trivial ?_ rfl;simp only [Tryz.ntmps129, List.size_toArray, List.length_cons, List.length_nil, Nat.reduceAdd, Nat.reduceSub, Array.replicate_succ, Array.replicate_zero, List.push_toArray, List.append_toArray, List.nil_append, List.cons_append]
 gi_wp2
 gi_loopw [3] (fun i wr => ∃ (k : Nat) (ys : List (Fin l.length)), k ≤ l.length ∧ i = .int .i64 ((k : Int) - 1) ∧ ys.map (fun j : Fin l.length => j.1) = ((List.range l.length).drop k).reverse ∧ Hid (J ys wr) ∧ Hid (BackNeed l F A c Bs b0 g wr))
  (fun i _ => (intOf i + 1).toNat)
 case atStart => exact ⟨l.length, [], Nat.le_refl _, rfl, by simp, H0, HN⟩
 case round =>
  obtain ⟨k, ys, hk, rfl, hys, HJ, HNr⟩ := hrel;have Hys := lh hys;clear hys x0 lx;have y0 : wr.cell? ⟨Bs, 0, none⟩ = some (.slice A l.length c) := by rw [qb HNr.out.box]; rfl
  have ly := qa HNr.out.box
  cases k with
  | zero =>
    have k1 : ¬ (0 : Int) ≤ ((0 : Nat) : Int) - 1 := by omega
    have hfin : Hid (ys.map (fun j : Fin l.length => j.1) = (List.range l.length).reverse) := lh (by rw [Hys.out]; rfl)
    gi_wp2
    go_end0
    exact ⟨⟨_, rfl⟩, .inl ⟨ys, hfin.out, HJ.out⟩⟩
  | succ k =>
    have e1 : (((k + 1 : Nat) : Int)) - 1 = (k : Int) := by omega
    rw [e1];have hlt : k < l.length := by omega
    obtain ⟨b, off, rfl, hb, hv, q0, q1, q2, q3, q4, q5, q6, q7⟩ := HNr.out.row k hlt;have k1 := nnn k;have k2 : (k : Int) < (l.length : Int) := by omega
    have lb : b < wr.heap.size := World.block_lt_of_cell? wr _ q0
    have hlen : ys.length < l.length := by
     rw [qld Hys.out];simp;omega
    obtain ⟨fn5, tmps5, assign5, body5, hy5, hR5⟩ := HY.out ys ⟨k, hlt⟩ wr HJ.out hlen;dsimp only [encB, insC] at hy5;have HR5 := lh hR5
    have Hnext : Hid ((ys ++ [(⟨k, hlt⟩ : Fin l.length)]).map (fun j : Fin l.length => j.1) = ((List.range l.length).drop k).reverse) := lh (by
     rw [List.map_append, Hys.out, <- q9d hlt];rfl)
    clear hR5 hv hb
    gi_wp2
    refine HR5.out.mono ?_;rintro e W6 (⟨rfl, hJ6, hk6⟩ | ⟨rfl, hx6⟩)
    ·have HN6 := lh (HNr.out.keep hk6);have HJ6 := lh hJ6;clear hJ6 hk6 q0 q1 q2 q3 q4 q5 q6 q7 lb y0 ly
     gi_wp2
     go_roundw
     case rel => exact ⟨k, _, by omega, by go_num, Hnext.out, HJ6, HN6⟩
     case measure => simp [intOf] <;> omega
    ·gi_wp2
     refine bodyPost_ret (results_none rfl _ _ _) rfl ?_;exact ⟨⟨_, rfl⟩, .inr ⟨_, trivial, hx6⟩⟩
theorem q9h (n : Nat) (hn : 1 ≤ n) (Bs b0 g : Nat) (l : List UIns) (F : Nat -> Value) (A : Option Addr) (c : Nat) (hmx : l.length ≤ maxLen) (w : World) (hN : BackNeed l F A c Bs b0 g w) :
 SeqStopsK Fence.wide n Tryz.prog 129 #[.pointer (some ⟨Bs, 0, none⟩)] (encB l F) (CKeep g) (fun ys => ys.map (fun j : Fin l.length => j.1) = (List.range l.length).reverse) (fun _ => True) l.length w := fun lp J Jx W hW hJ _ hY h0 =>
 qko n hn lp Bs b0 g l F A c hmx J Jx hY W (hN.keep (CKeep.of_below hW)) h0
theorem q9g (A : Option Addr) (m c : Nat) (w : World) (R : Ending -> World -> Prop)
 (hR : R (.returned (.func (.func 129) #[] #[.pointer (some ⟨w.heap.size, 0, none⟩)])) (w.alloc (.cells #[.slice A m c] 62))) :
 Calls Tryz.prog 98 #[.slice A m c] w R := by
 have HR := lh hR;clear hR
 go_enter Tryz.func98, Tryz.ntmps98
 go_wp2;exact HR.out
end Go.Proofs.YtdanebboiekieaaGreatDoor
namespace Go.Proofs.YtdanebboiekieaaGreatDoor
open Go.RowKit
theorem q2q {w : World} {b : Nat} {v0 v1 v2 v3 : Value} {T : TypeId} (h : w.heap[b]? = some (.cells #[v0, v1, v2, v3] T (0, 0))) :
 w.cell? ⟨b, 0, none⟩ = some v0 ∧ w.cell? ⟨b, 1, none⟩ = some v1 ∧ w.cell? ⟨b, 2, none⟩ = some v2 ∧ w.cell? ⟨b, 3, none⟩ = some v3 := by
 refine ⟨?_, ?_, ?_, ?_⟩ <;> (rw [qb h]; rfl)
theorem qdr (gA fA bA aA : Option Addr) (gn gc fn fc bn bc' an ac : Nat) (nm : ByteArray) (pr rg : Int) (on : UVal) (ts : List Int) (A : Option Addr) (c : Nat) (hrg : I64 rg) (h0 : -9223372036854775807 ≤ rg) (hbn : bn ≤ maxLen) (w : World) (hW : Ways w)
 (ht : rpInt.SL w w.heap.size ts (.slice A ts.length c)) (R : Ending -> World -> Prop) (hR : ∀ w', Below w.heap.size w w' -> R (.returned (.int .i64 (endF bn rg ⟨1, on, ts⟩))) w') :
 Calls Tryz.prog 135 #[(.agg #[.slice gA gn gc, .slice fA fn fc, .string nm, .int .i64 pr, .int .i64 rg, .slice bA bn bc', .slice aA an ac]), .agg #[.int .i64 1, .bool on.reg, .int .i64 on.n, .slice A ts.length c]] w R := by
 obtain ⟨HR, Ht⟩ := lh2 hR ht;have hm := ht.max;unfold maxLen at hm;have hbn' := hbn;unfold maxLen at hbn';obtain ⟨hw0, g1, g2, g3⟩ := hW;obtain ⟨HC, HX⟩ := al12 w (.cells #[.slice gA gn gc, .slice fA fn fc, .string nm, .int .i64 pr, .int .i64 rg, .slice bA bn bc', .slice aA an ac] 171) (.cells #[.int .i64 1, .bool on.reg, .int .i64 on.n, .slice A ts.length c] 66);have HBt := lh (ht.up (B := w.heap.size) (by exact bl0 : Below w.heap.size w ((w.alloc (Obj.cells #[.slice gA gn gc, .slice fA fn fc, .string nm, .int .i64 pr, .int .i64 rg, .slice bA bn bc', .slice aA an ac] 171)).alloc (Obj.cells #[.int .i64 1, .bool on.reg, .int .i64 on.n, .slice A ts.length c] 66))) (by simp; omega : w.heap.size ≤ ((w.alloc (Obj.cells #[.slice gA gn gc, .slice fA fn fc, .string nm, .int .i64 pr, .int .i64 rg, .slice bA bn bc', .slice aA an ac] 171)).alloc (Obj.cells #[.int .i64 1, .bool on.reg, .int .i64 on.n, .slice A ts.length c] 66)).heap.size));clear hR ht
 by_cases hlen : ¬ (ts.length : Int) = 0
 ·have e : endF bn rg ⟨1, on, ts⟩ = 9 := by unfold endF; rw [if_neg (by simp), if_pos (by simpa using hlen)]
  rw [e] at HR;have hlb : ((ts.length : Int) != 0) = true := by simpa using hlen
  clear e hlen
  go_enter Tryz.func135, Tryz.ntmps135
  go_wp2_with fail
  refine qd _ _ _ _ _ ?_
  go_wp2_with fail
  go_quiet (fail)
  go_wp2;exact HR.out _ bl0
 have hlen := Decidable.of_not_not hlen;have hlb : ((ts.length : Int) != 0) = false := by simpa using hlen
 by_cases hany : (ts.any fun t => !decide (1 ≤ t ∧ t ≤ (bn : Int) - 1)) = true
 ·have e : endF bn rg ⟨1, on, ts⟩ = 3 := by unfold endF; rw [if_neg (by simp), if_neg (fun h => h (show (ts.length : Int) = 1 - 1 from by omega)), if_pos hany]
  rw [e] at HR;clear e
  go_enter Tryz.func135, Tryz.ntmps135
  go_wp2_with fail
  refine qd _ _ _ _ _ ?_
  go_wp2_with fail
  go_quiet (fail)
  go_wp2_with fail
  refine q0z w.heap.size _ (fun t => !decide (1 ≤ t ∧ t ≤ (bn : Int) - 1)) _ _ (HBt.out.up (qm (Below.refl _ _) _) (Nat.le_refl _)) (fun a w1 ha hb R5 hR5 => q1t _ _ _ _ _ _ bA bn bc' w.heap.size _ a w1 ((hb.block _ (by simp; omega)).trans HC.out) hbn R5 hR5) _ (fun w1 hb1 => ?_);rw [hany];have hX := (hb1.block (w.heap.size + 1) (by simp)).trans HX.out;have hCk := (hb1.block w.heap.size (by simp; omega)).trans HC.out;obtain ⟨x0, x1, x2, x3⟩ := q2q hX;obtain ⟨c0, c1, c2, c3, c4, c5, c6⟩ := qr hCk;have lx := qa hX;have lc := qa hCk;have Hb1 := lh ((by exact bl0 : Below w.heap.size w _).trans (hb1.mono (by simp; omega)));have HB1t := lh ((HBt.out.up (qm (Below.refl _ _) _) (Nat.le_refl _)).up hb1 hb1.size);have hs1 := hb1.size;clear hb1 hX hCk;go_wp2;exact HR.out _ (bzz Hb1 bl0)
 have hany : (ts.any fun t => !decide (1 ≤ t ∧ t ≤ (bn : Int) - 1)) = false := by simpa using hany
 have e0 : endF bn rg ⟨1, on, ts⟩ = if ((1 : Int) = 3 ∧ ts[0]? = ts[1]?) ∨ ((1 : Int) = 2 ∧ isZ on = false) then 5 else valF rg on := by
  unfold endF;rw [if_neg (by simp), if_neg (fun h => h (show (ts.length : Int) = 1 - 1 from by omega)), if_neg (by simp only [hany]; simp)]
 rw [e0] at HR;clear e0;rw [if_neg (by simp)] at HR
 go_enter Tryz.func135, Tryz.ntmps135
 go_wp2_with fail
 refine qd _ _ _ _ _ ?_
 go_wp2_with fail
 go_quiet (fail)
 go_wp2_with fail
 refine q0z w.heap.size _ (fun t => !decide (1 ≤ t ∧ t ≤ (bn : Int) - 1)) _ _ (HBt.out.up (qm (Below.refl _ _) _) (Nat.le_refl _)) (fun a w1 ha hb R5 hR5 => q1t _ _ _ _ _ _ bA bn bc' w.heap.size _ a w1 ((hb.block _ (by simp; omega)).trans HC.out) hbn R5 hR5) _ (fun w1 hb1 => ?_);rw [hany];have hX := (hb1.block (w.heap.size + 1) (by simp)).trans HX.out;have hCk := (hb1.block w.heap.size (by simp; omega)).trans HC.out;obtain ⟨x0, x1, x2, x3⟩ := q2q hX;obtain ⟨c0, c1, c2, c3, c4, c5, c6⟩ := qr hCk;have lx := qa hX;have lc := qa hCk;have Hb1 := lh ((by exact bl0 : Below w.heap.size w _).trans (hb1.mono (by simp; omega)));have HB1t := lh ((HBt.out.up (qm (Below.refl _ _) _) (Nat.le_refl _)).up hb1 hb1.size);have hs1 := hb1.size;clear hb1 hX hCk
 go_wp2_with fail
 go_quiet (fail)
 go_wp2_with fail
 refine q3p gA fA bA aA gn gc fn fc bn bc' an ac nm pr rg on hrg _ h0 _ (fun w2 hb2 => ?_);have Hfin := lh (HR.out _ ((qm Hb1.out _).trans (hb2.mono Hb1.out.size)));clear hb2;go_wp2;exact Hfin.out
theorem qds (gA fA bA aA : Option Addr) (gn gc fn fc bn bc' an ac : Nat) (nm : ByteArray) (pr rg : Int) (on : UVal) (ts : List Int) (A : Option Addr) (c : Nat) (hrg : I64 rg) (h0 : -9223372036854775807 ≤ rg) (hbn : bn ≤ maxLen) (w : World) (hW : Ways w)
 (ht : rpInt.SL w w.heap.size ts (.slice A ts.length c)) (R : Ending -> World -> Prop) (hR : ∀ w', Below w.heap.size w w' -> R (.returned (.int .i64 (endF bn rg ⟨2, on, ts⟩))) w') :
 Calls Tryz.prog 135 #[(.agg #[.slice gA gn gc, .slice fA fn fc, .string nm, .int .i64 pr, .int .i64 rg, .slice bA bn bc', .slice aA an ac]), .agg #[.int .i64 2, .bool on.reg, .int .i64 on.n, .slice A ts.length c]] w R := by
 obtain ⟨HR, Ht⟩ := lh2 hR ht;have hm := ht.max;unfold maxLen at hm;have hbn' := hbn;unfold maxLen at hbn';obtain ⟨hw0, g1, g2, g3⟩ := hW;obtain ⟨HC, HX⟩ := al12 w (.cells #[.slice gA gn gc, .slice fA fn fc, .string nm, .int .i64 pr, .int .i64 rg, .slice bA bn bc', .slice aA an ac] 171) (.cells #[.int .i64 2, .bool on.reg, .int .i64 on.n, .slice A ts.length c] 66);have HBt := lh (ht.up (B := w.heap.size) (by exact bl0 : Below w.heap.size w ((w.alloc (Obj.cells #[.slice gA gn gc, .slice fA fn fc, .string nm, .int .i64 pr, .int .i64 rg, .slice bA bn bc', .slice aA an ac] 171)).alloc (Obj.cells #[.int .i64 2, .bool on.reg, .int .i64 on.n, .slice A ts.length c] 66))) (by simp; omega : w.heap.size ≤ ((w.alloc (Obj.cells #[.slice gA gn gc, .slice fA fn fc, .string nm, .int .i64 pr, .int .i64 rg, .slice bA bn bc', .slice aA an ac] 171)).alloc (Obj.cells #[.int .i64 2, .bool on.reg, .int .i64 on.n, .slice A ts.length c] 66)).heap.size));clear hR ht
 by_cases hlen : ¬ (ts.length : Int) = 1
 ·have e : endF bn rg ⟨2, on, ts⟩ = 9 := by unfold endF; rw [if_neg (by simp), if_pos (by simpa using hlen)]
  rw [e] at HR;have hlb : ((ts.length : Int) != 1) = true := by simpa using hlen
  clear e hlen
  go_enter Tryz.func135, Tryz.ntmps135
  go_wp2_with fail
  refine qd _ _ _ _ _ ?_
  go_wp2_with fail
  go_quiet (fail)
  go_wp2;exact HR.out _ bl0
 have hlen := Decidable.of_not_not hlen;have hlb : ((ts.length : Int) != 1) = false := by simpa using hlen
 by_cases hany : (ts.any fun t => !decide (1 ≤ t ∧ t ≤ (bn : Int) - 1)) = true
 ·have e : endF bn rg ⟨2, on, ts⟩ = 3 := by unfold endF; rw [if_neg (by simp), if_neg (fun h => h (show (ts.length : Int) = 2 - 1 from by omega)), if_pos hany]
  rw [e] at HR;clear e
  go_enter Tryz.func135, Tryz.ntmps135
  go_wp2_with fail
  refine qd _ _ _ _ _ ?_
  go_wp2_with fail
  go_quiet (fail)
  go_wp2_with fail
  refine q0z w.heap.size _ (fun t => !decide (1 ≤ t ∧ t ≤ (bn : Int) - 1)) _ _ (HBt.out.up (qm (Below.refl _ _) _) (Nat.le_refl _)) (fun a w1 ha hb R5 hR5 => q1t _ _ _ _ _ _ bA bn bc' w.heap.size _ a w1 ((hb.block _ (by simp; omega)).trans HC.out) hbn R5 hR5) _ (fun w1 hb1 => ?_);rw [hany];have hX := (hb1.block (w.heap.size + 1) (by simp)).trans HX.out;have hCk := (hb1.block w.heap.size (by simp; omega)).trans HC.out;obtain ⟨x0, x1, x2, x3⟩ := q2q hX;obtain ⟨c0, c1, c2, c3, c4, c5, c6⟩ := qr hCk;have lx := qa hX;have lc := qa hCk;have Hb1 := lh ((by exact bl0 : Below w.heap.size w _).trans (hb1.mono (by simp; omega)));have HB1t := lh ((HBt.out.up (qm (Below.refl _ _) _) (Nat.le_refl _)).up hb1 hb1.size);have hs1 := hb1.size;clear hb1 hX hCk;go_wp2;exact HR.out _ (bzz Hb1 bl0)
 have hany : (ts.any fun t => !decide (1 ≤ t ∧ t ≤ (bn : Int) - 1)) = false := by simpa using hany
 have e0 : endF bn rg ⟨2, on, ts⟩ = if ((2 : Int) = 3 ∧ ts[0]? = ts[1]?) ∨ ((2 : Int) = 2 ∧ isZ on = false) then 5 else valF rg on := by
  unfold endF;rw [if_neg (by simp), if_neg (fun h => h (show (ts.length : Int) = 2 - 1 from by omega)), if_neg (by simp only [hany]; simp)]
 rw [e0] at HR;clear e0
 by_cases hz : isZ on = false
 ·rw [if_pos (.inr ⟨rfl, hz⟩)] at HR;have t_z : ∀ w, (binOp .neq 64 (.agg #[.bool on.reg, .int .i64 on.n]) (.agg #[.bool false, .int .i64 0])).run Tryz.prog w = .ok (.bool true) w := fun w => by rw [qas, qfb, hz]; rfl
  clear hz
  go_enter Tryz.func135, Tryz.ntmps135
  go_wp2_with fail
  refine qd _ _ _ _ _ ?_
  go_wp2_with fail
  go_quiet (fail)
  go_wp2_with fail
  refine q0z w.heap.size _ (fun t => !decide (1 ≤ t ∧ t ≤ (bn : Int) - 1)) _ _ (HBt.out.up (qm (Below.refl _ _) _) (Nat.le_refl _)) (fun a w1 ha hb R5 hR5 => q1t _ _ _ _ _ _ bA bn bc' w.heap.size _ a w1 ((hb.block _ (by simp; omega)).trans HC.out) hbn R5 hR5) _ (fun w1 hb1 => ?_);rw [hany];have hX := (hb1.block (w.heap.size + 1) (by simp)).trans HX.out;have hCk := (hb1.block w.heap.size (by simp; omega)).trans HC.out;obtain ⟨x0, x1, x2, x3⟩ := q2q hX;obtain ⟨c0, c1, c2, c3, c4, c5, c6⟩ := qr hCk;have lx := qa hX;have lc := qa hCk;have Hb1 := lh ((by exact bl0 : Below w.heap.size w _).trans (hb1.mono (by simp; omega)));have HB1t := lh ((HBt.out.up (qm (Below.refl _ _) _) (Nat.le_refl _)).up hb1 hb1.size);have hs1 := hb1.size;clear hb1 hX hCk
  go_wp2_with fail
  go_quiet (fail)
  go_wp2;exact HR.out _ (bzz Hb1 bl0)
 ·rw [if_neg (by simp [hz])] at HR;have t_z : ∀ w, (binOp .neq 64 (.agg #[.bool on.reg, .int .i64 on.n]) (.agg #[.bool false, .int .i64 0])).run Tryz.prog w = .ok (.bool false) w := fun w => by rw [qas, qfb, show isZ on = true from by simpa using hz]; rfl
  clear hz
  go_enter Tryz.func135, Tryz.ntmps135
  go_wp2_with fail
  refine qd _ _ _ _ _ ?_
  go_wp2_with fail
  go_quiet (fail)
  go_wp2_with fail
  refine q0z w.heap.size _ (fun t => !decide (1 ≤ t ∧ t ≤ (bn : Int) - 1)) _ _ (HBt.out.up (qm (Below.refl _ _) _) (Nat.le_refl _)) (fun a w1 ha hb R5 hR5 => q1t _ _ _ _ _ _ bA bn bc' w.heap.size _ a w1 ((hb.block _ (by simp; omega)).trans HC.out) hbn R5 hR5) _ (fun w1 hb1 => ?_);rw [hany];have hX := (hb1.block (w.heap.size + 1) (by simp)).trans HX.out;have hCk := (hb1.block w.heap.size (by simp; omega)).trans HC.out;obtain ⟨x0, x1, x2, x3⟩ := q2q hX;obtain ⟨c0, c1, c2, c3, c4, c5, c6⟩ := qr hCk;have lx := qa hX;have lc := qa hCk;have Hb1 := lh ((by exact bl0 : Below w.heap.size w _).trans (hb1.mono (by simp; omega)));have HB1t := lh ((HBt.out.up (qm (Below.refl _ _) _) (Nat.le_refl _)).up hb1 hb1.size);have hs1 := hb1.size;clear hb1 hX hCk
  go_wp2_with fail
  go_quiet (fail)
  go_wp2_with fail
  refine q3p gA fA bA aA gn gc fn fc bn bc' an ac nm pr rg on hrg _ h0 _ (fun w2 hb2 => ?_);have Hfin := lh (HR.out _ ((qm Hb1.out _).trans (hb2.mono Hb1.out.size)));clear hb2;go_wp2;exact Hfin.out
theorem qdt (gA fA bA aA : Option Addr) (gn gc fn fc bn bc' an ac : Nat) (nm : ByteArray) (pr rg : Int) (on : UVal) (ts : List Int) (A : Option Addr) (c : Nat) (hrg : I64 rg) (h0 : -9223372036854775807 ≤ rg) (hbn : bn ≤ maxLen) (w : World) (hW : Ways w)
 (ht : rpInt.SL w w.heap.size ts (.slice A ts.length c)) (R : Ending -> World -> Prop) (hR : ∀ w', Below w.heap.size w w' -> R (.returned (.int .i64 (endF bn rg ⟨3, on, ts⟩))) w') :
 Calls Tryz.prog 135 #[(.agg #[.slice gA gn gc, .slice fA fn fc, .string nm, .int .i64 pr, .int .i64 rg, .slice bA bn bc', .slice aA an ac]), .agg #[.int .i64 3, .bool on.reg, .int .i64 on.n, .slice A ts.length c]] w R := by
 obtain ⟨HR, Ht⟩ := lh2 hR ht;have hm := ht.max;unfold maxLen at hm;have hbn' := hbn;unfold maxLen at hbn';obtain ⟨hw0, g1, g2, g3⟩ := hW;obtain ⟨HC, HX⟩ := al12 w (.cells #[.slice gA gn gc, .slice fA fn fc, .string nm, .int .i64 pr, .int .i64 rg, .slice bA bn bc', .slice aA an ac] 171) (.cells #[.int .i64 3, .bool on.reg, .int .i64 on.n, .slice A ts.length c] 66);have HBt := lh (ht.up (B := w.heap.size) (by exact bl0 : Below w.heap.size w ((w.alloc (Obj.cells #[.slice gA gn gc, .slice fA fn fc, .string nm, .int .i64 pr, .int .i64 rg, .slice bA bn bc', .slice aA an ac] 171)).alloc (Obj.cells #[.int .i64 3, .bool on.reg, .int .i64 on.n, .slice A ts.length c] 66))) (by simp; omega : w.heap.size ≤ ((w.alloc (Obj.cells #[.slice gA gn gc, .slice fA fn fc, .string nm, .int .i64 pr, .int .i64 rg, .slice bA bn bc', .slice aA an ac] 171)).alloc (Obj.cells #[.int .i64 3, .bool on.reg, .int .i64 on.n, .slice A ts.length c] 66)).heap.size));clear hR ht
 by_cases hlen : ¬ (ts.length : Int) = 2
 ·have e : endF bn rg ⟨3, on, ts⟩ = 9 := by unfold endF; rw [if_neg (by simp), if_pos (by simpa using hlen)]
  rw [e] at HR;have hlb : ((ts.length : Int) != 2) = true := by simpa using hlen
  clear e hlen
  go_enter Tryz.func135, Tryz.ntmps135
  go_wp2_with fail
  refine qd _ _ _ _ _ ?_
  go_wp2_with fail
  go_quiet (fail)
  go_wp2;exact HR.out _ bl0
 have hlen := Decidable.of_not_not hlen;have hlb : ((ts.length : Int) != 2) = false := by simpa using hlen
 by_cases hany : (ts.any fun t => !decide (1 ≤ t ∧ t ≤ (bn : Int) - 1)) = true
 ·have e : endF bn rg ⟨3, on, ts⟩ = 3 := by unfold endF; rw [if_neg (by simp), if_neg (fun h => h (show (ts.length : Int) = 3 - 1 from by omega)), if_pos hany]
  rw [e] at HR;clear e
  go_enter Tryz.func135, Tryz.ntmps135
  go_wp2_with fail
  refine qd _ _ _ _ _ ?_
  go_wp2_with fail
  go_quiet (fail)
  go_wp2_with fail
  refine q0z w.heap.size _ (fun t => !decide (1 ≤ t ∧ t ≤ (bn : Int) - 1)) _ _ (HBt.out.up (qm (Below.refl _ _) _) (Nat.le_refl _)) (fun a w1 ha hb R5 hR5 => q1t _ _ _ _ _ _ bA bn bc' w.heap.size _ a w1 ((hb.block _ (by simp; omega)).trans HC.out) hbn R5 hR5) _ (fun w1 hb1 => ?_);rw [hany];have hX := (hb1.block (w.heap.size + 1) (by simp)).trans HX.out;have hCk := (hb1.block w.heap.size (by simp; omega)).trans HC.out;obtain ⟨x0, x1, x2, x3⟩ := q2q hX;obtain ⟨c0, c1, c2, c3, c4, c5, c6⟩ := qr hCk;have lx := qa hX;have lc := qa hCk;have Hb1 := lh ((by exact bl0 : Below w.heap.size w _).trans (hb1.mono (by simp; omega)));have HB1t := lh ((HBt.out.up (qm (Below.refl _ _) _) (Nat.le_refl _)).up hb1 hb1.size);have hs1 := hb1.size;clear hb1 hX hCk;go_wp2;exact HR.out _ (bzz Hb1 bl0)
 have hany : (ts.any fun t => !decide (1 ≤ t ∧ t ≤ (bn : Int) - 1)) = false := by simpa using hany
 have e0 : endF bn rg ⟨3, on, ts⟩ = if ((3 : Int) = 3 ∧ ts[0]? = ts[1]?) ∨ ((3 : Int) = 2 ∧ isZ on = false) then 5 else valF rg on := by
  unfold endF;rw [if_neg (by simp), if_neg (fun h => h (show (ts.length : Int) = 3 - 1 from by omega)), if_neg (by simp only [hany]; simp)]
 rw [e0] at HR;clear e0
 obtain ⟨p, q, rfl⟩ : ∃ p q, ts = [p, q] := by
  match ts, hlen with
  | [p, q], _ => exact ⟨p, q, rfl⟩
  | [], h => simp at h
  | [p], h => simp at h
  | p :: q :: r :: t, h => simp at h; omega
 by_cases hz : p = q
 ·rw [if_pos (.inl ⟨rfl, by simp [hz]⟩)] at HR;have hzb : (p == q) = true := by simpa using hz
  clear hz
  go_enter Tryz.func135, Tryz.ntmps135
  go_wp2_with fail
  refine qd _ _ _ _ _ ?_
  go_wp2_with fail
  go_quiet (fail)
  go_wp2_with fail
  refine q0z w.heap.size _ (fun t => !decide (1 ≤ t ∧ t ≤ (bn : Int) - 1)) _ _ (HBt.out.up (qm (Below.refl _ _) _) (Nat.le_refl _)) (fun a w1 ha hb R5 hR5 => q1t _ _ _ _ _ _ bA bn bc' w.heap.size _ a w1 ((hb.block _ (by simp; omega)).trans HC.out) hbn R5 hR5) _ (fun w1 hb1 => ?_);rw [hany];have hX := (hb1.block (w.heap.size + 1) (by simp)).trans HX.out;have hCk := (hb1.block w.heap.size (by simp; omega)).trans HC.out;obtain ⟨x0, x1, x2, x3⟩ := q2q hX;obtain ⟨c0, c1, c2, c3, c4, c5, c6⟩ := qr hCk;have lx := qa hX;have lc := qa hCk;have Hb1 := lh ((by exact bl0 : Below w.heap.size w _).trans (hb1.mono (by simp; omega)));have HB1t := lh ((HBt.out.up (qm (Below.refl _ _) _) (Nat.le_refl _)).up hb1 hb1.size);have hs1 := hb1.size;clear hb1 hX hCk;have hpq := HB1t.out;obtain ⟨bt, ot, hAt, hbt, t0⟩ := hpq.int_at (k := 0) (by simp);obtain ⟨bt', ot', hAt', _, t1⟩ := hpq.int_at (k := 1) (by simp);subst hAt
  cases hAt'
  simp at t0 t1;clear hpq
  go_wp2_with fail
  go_quiet (fail)
  go_wp2;exact HR.out _ (bzz Hb1 bl0)
 ·rw [if_neg (by simp [hz])] at HR;have hzb : (p == q) = false := by simpa using hz
  clear hz
  go_enter Tryz.func135, Tryz.ntmps135
  go_wp2_with fail
  refine qd _ _ _ _ _ ?_
  go_wp2_with fail
  go_quiet (fail)
  go_wp2_with fail
  refine q0z w.heap.size _ (fun t => !decide (1 ≤ t ∧ t ≤ (bn : Int) - 1)) _ _ (HBt.out.up (qm (Below.refl _ _) _) (Nat.le_refl _)) (fun a w1 ha hb R5 hR5 => q1t _ _ _ _ _ _ bA bn bc' w.heap.size _ a w1 ((hb.block _ (by simp; omega)).trans HC.out) hbn R5 hR5) _ (fun w1 hb1 => ?_);rw [hany];have hX := (hb1.block (w.heap.size + 1) (by simp)).trans HX.out;have hCk := (hb1.block w.heap.size (by simp; omega)).trans HC.out;obtain ⟨x0, x1, x2, x3⟩ := q2q hX;obtain ⟨c0, c1, c2, c3, c4, c5, c6⟩ := qr hCk;have lx := qa hX;have lc := qa hCk;have Hb1 := lh ((by exact bl0 : Below w.heap.size w _).trans (hb1.mono (by simp; omega)));have HB1t := lh ((HBt.out.up (qm (Below.refl _ _) _) (Nat.le_refl _)).up hb1 hb1.size);have hs1 := hb1.size;clear hb1 hX hCk;have hpq := HB1t.out;obtain ⟨bt, ot, hAt, hbt, t0⟩ := hpq.int_at (k := 0) (by simp);obtain ⟨bt', ot', hAt', _, t1⟩ := hpq.int_at (k := 1) (by simp);subst hAt
  cases hAt'
  simp at t0 t1;clear hpq
  go_wp2_with fail
  go_quiet (fail)
  go_wp2_with fail
  refine q3p gA fA bA aA gn gc fn fc bn bc' an ac nm pr rg on hrg _ h0 _ (fun w2 hb2 => ?_);have Hfin := lh (HR.out _ ((qm Hb1.out _).trans (hb2.mono Hb1.out.size)));clear hb2;go_wp2;exact Hfin.out
theorem qi9 (gA fA bA aA : Option Addr) (gn gc fn fc bn bc' an ac : Nat) (nm : ByteArray) (pr rg : Int) (e : UEnd) (vt : Value) (hrg : I64 rg) (h0 : -9223372036854775807 ≤ rg) (hbn : bn ≤ maxLen) (w : World) (hW : Ways w)
 (ht : rpInt.SL w w.heap.size e.to vt) (R : Ending -> World -> Prop) (hR : ∀ w', Below w.heap.size w w' -> R (.returned (.int .i64 (endF bn rg e))) w') :
 Calls Tryz.prog 135 #[(.agg #[.slice gA gn gc, .slice fA fn fc, .string nm, .int .i64 pr, .int .i64 rg, .slice bA bn bc', .slice aA an ac]), .agg #[.int .i64 e.kind, .bool e.on.reg, .int .i64 e.on.n, vt]] w R := by
 obtain ⟨A, c, rfl, _, _, ht⟩ := ht.cases_;obtain ⟨kind, on, ts⟩ := e
 by_cases hk : ¬ (1 ≤ kind ∧ kind ≤ 3)
 ·have e : endF bn rg ⟨kind, on, ts⟩ = 4 := by unfold endF; rw [if_pos hk]
  rw [e] at hR;have hd : decide (1 ≤ kind ∧ kind ≤ 3) = false := by simpa using hk
  have HR := lh hR;clear hR e hk ht
  go_enter Tryz.func135, Tryz.ntmps135
  go_wp2_with (refine qd _ _ _ _ _ ?_; rw [hd])
  exact HR.out _ bl0
 have hk := Decidable.of_not_not hk
 rcases (by omega : kind = 1 ∨ kind = 2 ∨ kind = 3) with rfl | rfl | rfl
 ·exact qdr gA fA bA aA gn gc fn fc bn bc' an ac nm pr rg on ts A c hrg h0 hbn w hW ht R hR
 ·exact qds gA fA bA aA gn gc fn fc bn bc' an ac nm pr rg on ts A c hrg h0 hbn w hW ht R hR
 ·exact qdt gA fA bA aA gn gc fn fc bn bc' an ac nm pr rg on ts A c hrg h0 hbn w hW ht R hR
theorem Rp.SL.row_at {α : Type} {r : Rp α} {w : World} {B : Nat} {xs : List (List α)} {A : Option Addr} {n c k : Nat} (h : r.slice.SL w B xs (.slice A n c)) (hk : k < xs.length) : ∃ b off u, A = some ⟨b, off, none⟩ ∧ b < B ∧ w.cell? ⟨b, off + k, none⟩ = some u ∧ r.SL w B xs[k] u := by
 obtain ⟨b, off, cs, hA, hb, ⟨u, rfl, hu⟩, hcs⟩ := h.at_ (List.getElem?_eq_getElem hk);have := hcs 0 _ rfl;exact ⟨b, off, u, hA, hb, by simpa [Rp.slice] using this, hu⟩
def phiG (regs : Int) (AH : List (List Int)) (k : Nat) (p : UPhi) : Int :=
 if k = 0 then 5 else if dstF regs p.dst ≠ 0 then dstF regs p.dst
 else if p.from_.length ≠ (AH.getD k []).length then 9 else valsF regs p.from_
theorem qjk (gA fA bA aA : Option Addr) (gn gc fn fc bn bc' an ac : Nat) (nm : ByteArray) (pr rg : Int) (AH : List (List Int)) (k : Nat) (p : UPhi) (vf : Value) (hrg : I64 rg) (h0 : -9223372036854775807 ≤ rg) (w : World) (hk : k < AH.length)
 (ha : rpInt.slice.SL w w.heap.size AH (.slice aA an ac)) (hf : rpVal.SL w w.heap.size p.from_ vf) (R : Ending -> World -> Prop) (hR : ∀ w', Below w.heap.size w w' -> R (.returned (.int .i64 (phiG rg AH k p))) w') :
 Calls Tryz.prog 137 #[(.agg #[.slice gA gn gc, .slice fA fn fc, .string nm, .int .i64 pr, .int .i64 rg, .slice bA bn bc', .slice aA an ac]), .int .i64 (k : Int), .agg #[.int .i64 p.dst, vf]] w R := by
 obtain ⟨A, c, rfl, _, _, hf⟩ := hf.cases_;obtain ⟨HR, Ha, Hf⟩ := lh3 hR ha hf;have ham := ha.max;have han := ha.len;unfold maxLen at ham;subst han;clear hR ha hf
 by_cases hz : k = 0
 ·have e : phiG rg AH k p = 5 := by unfold phiG; rw [if_pos hz]
  rw [e] at HR;subst hz
  go_enter Tryz.func137, Tryz.ntmps137
  go_wp2;exact HR.out _ bl0
 have hzb : ((k : Int) == 0) = false := by simp; omega
 by_cases hd : ¬ dstF rg p.dst = 0
 ·have e : phiG rg AH k p = dstF rg p.dst := by unfold phiG; rw [if_neg hz, if_pos hd]
  rw [e] at HR;have hdb : (dstF rg p.dst != 0) = true := by simpa using hd
  clear hd e
  go_enter Tryz.func137, Tryz.ntmps137
  go_wp2_with fail
  refine q67 gA fA bA aA gn gc fn fc bn bc' _ ac nm pr rg p.dst hrg _ h0 _ (fun w1 hb1 => ?_);have Hfin := lh (HR.out _ ((by exact bl0 : Below w.heap.size w _).trans (hb1.mono (by simp; omega))));clear hb1;go_wp2;exact Hfin.out
 have hd := Decidable.of_not_not hd;obtain ⟨ba, oa, u, rfl, hba, q0, hu⟩ := Ha.out.row_at hk;obtain ⟨A2, c2, rfl, _, _, hu⟩ := hu.cases_;have k1 := nnn k;have k2 : (k : Int) < (AH.length : Int) := by omega
 have hG : AH.getD k [] = AH[k] := by rw [List.getD_eq_getElem?_getD, List.getElem?_eq_getElem hk]; rfl
 obtain ⟨X0, hX0⟩ := nmm ((w.alloc (Obj.cells #[.slice gA gn gc, .slice fA fn fc, .string nm, .int .i64 pr, .int .i64 rg, .slice bA bn bc', .slice (some ⟨ba, oa, none⟩) AH.length ac] 171)).alloc (Obj.cells #[.int .i64 p.dst, .slice A p.from_.length c] 164));have HC : Hid (X0.heap[w.heap.size]? = some (.cells #[.slice gA gn gc, .slice fA fn fc, .string nm, .int .i64 pr, .int .i64 rg, .slice bA bn bc', .slice (some ⟨ba, oa, none⟩) AH.length ac] 171 (0, 0))) := lh (by subst hX0; exact qf (heap_alloc_new _ _) _)
 have HX : Hid (X0.heap[w.heap.size + 1]? = some (.cells #[.int .i64 p.dst, .slice A p.from_.length c] 164 (0, 0))) := lh (by
  subst hX0;have := heap_alloc_new (w.alloc (Obj.cells #[.slice gA gn gc, .slice fA fn fc, .string nm, .int .i64 pr, .int .i64 rg, .slice bA bn bc', .slice (some ⟨ba, oa, none⟩) AH.length ac] 171)) (Obj.cells #[.int .i64 p.dst, .slice A p.from_.length c] 164);simpa using this)
 have Hbx : Hid (Below w.heap.size w X0) := lh (by subst hX0; exact bl0);have hsx : X0.heap.size = w.heap.size + 2 := by subst hX0; simp
 have HW := lh hX0.symm;clear hX0;have pre : ∀ w1, Below X0.heap.size X0 w1 -> w1.cell? ⟨ba, oa + k, none⟩ = some (.slice A2 AH[k].length c2) ∧ ba < w1.heap.size := fun w1 hb1 => ⟨((Hbx.out.trans (hb1.mono Hbx.out.size)).cell (p := ⟨ba, oa + k, none⟩) hba).trans q0, by have := hb1.size; omega⟩;have Pre := lh pre;clear pre q0
 by_cases hl : ¬ p.from_.length = AH[k].length
 ·have e : phiG rg AH k p = 9 := by unfold phiG; rw [if_neg hz, if_neg (by simpa using hd), hG, if_pos hl]
  rw [e] at HR;have hdb : (dstF rg p.dst != 0) = false := by simpa using hd
  have hlb : ((p.from_.length : Int) != (AH[k].length : Int)) = true := by simp; omega
  generalize AH[k] = row at *;clear e hG hu hl
  go_enter Tryz.func137, Tryz.ntmps137
  go_wp2_with fail
  rw [HW.out];refine q67 gA fA bA _ gn gc fn fc bn bc' _ ac nm pr rg p.dst hrg _ h0 _ (fun w1 hb1 => ?_);rw [hd];obtain ⟨p0, lb⟩ := Pre.out w1 hb1;obtain ⟨c0, c1, c2, c3, c4, c5, c6⟩ := qr ((hb1.block _ (qa HC.out)).trans HC.out);obtain ⟨x0, x1⟩ := qi ((hb1.block _ (qa HX.out)).trans HX.out);have lc := qa ((hb1.block _ (qa HC.out)).trans HC.out);have lx := qa ((hb1.block _ (qa HX.out)).trans HX.out);have Hfin := lh (fun n => HR.out _ (qm (Hbx.out.trans (hb1.mono Hbx.out.size)) n));clear hb1
  go_wp2_with fail
  go_quiet (fail)
  go_wp2;exact Hfin.out _
 have hl := Decidable.of_not_not hl;have e : phiG rg AH k p = valsF rg p.from_ := by unfold phiG; rw [if_neg hz, if_neg (by simpa using hd), hG, if_neg (by omega)]
 rw [e] at HR;have hdb : (dstF rg p.dst != 0) = false := by simpa using hd
 have hlb : ((p.from_.length : Int) != (AH[k].length : Int)) = false := by simp; omega
 generalize AH[k] = row at *;clear e hG hu hl
 go_enter Tryz.func137, Tryz.ntmps137
 go_wp2_with fail
 rw [HW.out];refine q67 gA fA bA _ gn gc fn fc bn bc' _ ac nm pr rg p.dst hrg _ h0 _ (fun w1 hb1 => ?_);rw [hd];obtain ⟨p0, lb⟩ := Pre.out w1 hb1;have hC1 := (hb1.block _ (qa HC.out)).trans HC.out;have hX1 := (hb1.block _ (qa HX.out)).trans HX.out;have HC1 := lh hC1;obtain ⟨c0, c1, c2, c3, c4, c5, c6⟩ := qr hC1;obtain ⟨x0, x1⟩ := qi hX1;have lc := qa hC1;have lx := qa hX1;have Hb1 := lh (Hbx.out.trans (hb1.mono Hbx.out.size));have Hf1 := lh (Hf.out.up Hb1.out Hb1.out.size);clear hb1 hC1 hX1
 go_wp2_with fail
 go_quiet (fail)
 go_wp2
 go_loopg [9, 10, 33] p.from_.length (fun gh s9 s10 s33 wr => ∃ j : Nat, j ≤ p.from_.length ∧ gh = p.from_.length - j ∧ s33 = .int .i64 (j : Int) ∧ valsF rg (p.from_.take j) = 0 ∧ Below w1.heap.size w1 wr)
 case atStart => exact ⟨0, Nat.zero_le _, rfl, rfl, rfl, bl0⟩
 case round =>
  obtain ⟨j, hj, rfl, rfl, hzj, hbel⟩ := hrel;obtain ⟨Hz, Hbel⟩ := lh2 hzj hbel;have hsz := hbel.size;clear hzj hbel
  by_cases hlt : j < p.from_.length
  ·obtain ⟨bv, ov, rfl, hbv, a0, a1⟩ := Hf1.out.val_at hlt;have j1 := nnn j;have j2 : (j : Int) < (p.from_.length : Int) := by omega
   have a0' := (Hbel.out.cell (p := ⟨bv, ov + j * 2, none⟩) hbv).trans a0;have a1' := (Hbel.out.cell (p := ⟨bv, ov + j * 2 + 1, none⟩) hbv).trans a1;have lbv : bv < wr.heap.size := by omega
   obtain ⟨m0, m1, m2, m3, m4, m5, m6⟩ := qr ((Hbel.out.block _ lc).trans HC1.out);have lcr : w.heap.size < wr.heap.size := by omega
   have Hyes : Hid (valF rg p.from_[j] = 0 -> valsF rg (p.from_.take (j + 1)) = 0) := lh fun h => qa9 hlt Hz.out h;have Hno : Hid (valF rg p.from_[j] ≠ 0 -> valsF rg p.from_ = valF rg p.from_[j]) := lh fun h => qfy hlt Hz.out h;generalize p.from_[j] = a at *;clear c0 c1 c2 c3 c4 c5 c6 x0 x1 p0
   go_wp2_with fail
   refine q3p gA fA bA _ gn gc fn fc bn bc' _ ac nm pr rg a hrg _ h0 _ ?_;intro w2 hb2;have Hb2 := lh (Hbel.out.trans ((by exact bl0 : Below wr.heap.size wr (wr.alloc (Obj.cells #[.bool a.reg, .int .i64 a.n] 64))).trans (hb2.mono (by simp)) |>.mono hsz));clear hb2
   by_cases hv : valF rg a = 0
   ·have hvb : (valF rg a != 0) = false := by simp [hv]
    have hy := lh (Hyes.out hv);clear Hyes Hno;go_wp2
    go_roundg (p.from_.length - (j + 1))
    case measure => omega
    case rel => exact ⟨j + 1, by omega, rfl, by go_num, hy.out, Hb2.out⟩
   ·have hvb : (valF rg a != 0) = true := by simp [hv]
    have hy := lh (Hno.out hv);have Hfin := lh (HR.out _ (Hb1.out.trans (Hb2.out.mono Hb1.out.size)));rw [hy.out] at Hfin;clear Hyes Hno;go_wp2;exact Hfin.out
  ·obtain rfl : j = p.from_.length := by omega
   have j2 : ¬ ((p.from_.length : Int) < (p.from_.length : Int)) := by omega
   have Hfin := lh (HR.out _ (Hb1.out.trans (Hbel.out.mono Hb1.out.size)));rw [show valsF rg p.from_ = 0 from by have := Hz.out; rwa [List.take_length] at this] at Hfin;go_wp2;exact Hfin.out
end Go.Proofs.YtdanebboiekieaaGreatDoor
