/- The walks, part 19. -/
import Derived.Test.YtdanebboiekieaaGreatDoorP18
set_option linter.unusedSimpArgs false
set_option linter.unusedVariables false
set_option maxRecDepth 100000
set_option maxHeartbeats 16000000
namespace Go.Proofs.YtdanebboiekieaaGreatDoor
open Go.RowKit
structure PW where
 f : UFun
 rows : List (List Int)
 acl : List Int
 gv : List Int
 pl : List Int
 nm : Value
 A : Option Addr
 cA : Option Addr
 aA : Option Addr
 cb : Nat
 cc : Nat
 ac : Nat
 cg : Nat
 cp : Nat
 PB : Nat
 gp : Nat
 gg : Nat
 n : Nat
 b0 : Nat
 hpl : pl.length = n
 hrow : ∀ row ∈ rows, ∀ o ∈ row, 0 ≤ o ∧ o < (n : Int)
structure PaintN (P : PW) (W : World) : Prop where
 bx : W.heap[P.PB]? = some (.cells #[P.nm, .int .i64 P.f.params, .int .i64 P.f.regs, .slice P.A P.f.blocks.length P.cb, .slice P.cA P.rows.length P.cc, .slice P.aA P.acl.length P.ac, .slice (some ⟨P.gg, 0, none⟩) P.gv.length P.cg, .slice (some ⟨P.gp, 0, none⟩) P.n P.cp] 96 (0, 0))
 cl : rpInt.slice.SL W P.b0 P.rows (.slice P.cA P.rows.length P.cc)
 ac : rpInt.SL W P.b0 P.acl (.slice P.aA P.acl.length P.ac)
 bl : rpBlk.SL W P.b0 P.f.blocks (.slice P.A P.f.blocks.length P.cb)
 pl : IntAt P.gp P.pl W
 gv : IntAt P.gg P.gv W
 mg : P.gv.length ≤ maxLen ∧ P.gv.length ≤ P.cg
 le : P.b0 ≤ W.heap.size
theorem PaintN.below {P : PW} {W W' : World} (h : PaintN P W) (hb : Below W.heap.size W W') : PaintN P W' :=
 ⟨(hb.block _ (qa h.bx)).trans h.bx, h.cl.up (hb.mono h.le) (Nat.le_refl _), h.ac.up (hb.mono h.le) (Nat.le_refl _), h.bl.up (hb.mono h.le) (Nat.le_refl _), h.pl.below hb, h.gv.below hb, h.mg, Nat.le_trans h.le hb.size⟩
def qa8 (row pl : List Int) (p : Int) : Bool := row.any fun o => decide (iAt pl o.toNat = p)
theorem qd1 (P : PW) (Bp Bt : Nat) (p o : Int) (w : World) (hN : PaintN P w) (hp : w.heap[Bp]? = some (.cells #[.pointer (some ⟨P.PB, 0, none⟩)] 93 (0, 0))) (ht : w.heap[Bt]? = some (.cells #[.int .i64 p] 3 (0, 0))) (ho : 0 ≤ o ∧ o < (P.n : Int)) (R : Ending -> World -> Prop)
 (hR : ∀ w', Below w.heap.size w w' -> R (.returned (.bool (decide (iAt P.pl o.toNat = p)))) w') :
 Calls Tryz.prog 106 #[.int .i64 o, .pointer (some ⟨Bp, 0, none⟩), .pointer (some ⟨Bt, 0, none⟩)] w R := by
 have HR := lh hR;obtain ⟨k, rfl⟩ : ∃ k : Nat, o = (k : Int) := ⟨o.toNat, by omega⟩;have hk : k < P.n := by omega
 rw [Int.toNat_natCast] at HR;have c0 := hN.pl.cell (k := k) (by rw [P.hpl]; exact hk);have lg := hN.pl.lt;have x0 : w.cell? ⟨Bp, 0, none⟩ = some (.pointer (some ⟨P.PB, 0, none⟩)) := cqq hp;have x1 : w.cell? ⟨Bt, 0, none⟩ = some (.int .i64 p) := cqq ht;have x2 : w.cell? ⟨P.PB, 7, none⟩ = some (.slice (some ⟨P.gp, 0, none⟩) P.n P.cp) := by rw [qb hN.bx]; rfl
 have l0 := qa hp;have l1 := qa ht;have l2 := qa hN.bx;have k1 := nnn k;have k2 : (k : Int) < (P.n : Int) := by omega
 generalize iAt P.pl k = q at *;clear hR hN hp ht ho
 go_enter Tryz.func106, Tryz.ntmps106
 go_wp2
 go_quiet (fail)
 all_goals (go_wp2; exact HR.out _ bl0)
theorem qef {α : Type} {r : Rp α} {w : World} {B : Nat} {xs : List (List α)} {A : Option Addr} {n c k : Nat} (h : r.slice.SL w B xs (.slice A n c)) (hk : k < xs.length) : ∃ b off u, A = some ⟨b, off, none⟩ ∧ b < B ∧ w.cell? ⟨b, off + k, none⟩ = some u ∧ r.SL w B xs[k] u := by
 obtain ⟨b, off, cs, hA, hb, ⟨u, rfl, hr⟩, hcs⟩ := h.at_ (List.getElem?_eq_getElem hk);refine ⟨b, off, u, hA, hb, ?_, hr⟩;have := hcs 0 _ rfl;simpa [Rp.slice] using this
theorem qe0 (Bp Bt : Nat) (xs : List Int) (p : Int -> Bool) (v : Value) (w : World) (h : rpInt.SL w w.heap.size xs v)
 (hcl : ∀ (a : Int) w1, a ∈ xs -> Below w.heap.size w w1 -> ∀ R : Ending -> World -> Prop, (∀ w2, Below w1.heap.size w1 w2 -> R (.returned (.bool (p a))) w2) -> Calls Tryz.prog 106 #[.int .i64 a, .pointer (some ⟨Bp, 0, none⟩), .pointer (some ⟨Bt, 0, none⟩)] w1 R) (R : Ending -> World -> Prop)
 (hR : ∀ w' r, Below w.heap.size w w' -> (decide ((0 : Int) ≤ r) = xs.any p) -> R (.returned (.int .i64 r)) w') :
 Calls Tryz.prog 133 #[v, .func (.func 106) #[] #[.pointer (some ⟨Bp, 0, none⟩), .pointer (some ⟨Bt, 0, none⟩)]] w R := by
 obtain ⟨A, c, rfl, hm, hcap, hs⟩ := h.cases_;obtain ⟨Hs, HR, Hcl⟩ := lh3 hs hR hcl;clear hR h hs hcl
 go_enter Tryz.func133, Tryz.ntmps133
 go_wp2
 go_loopg [5, 8] xs.length (fun g j i wr => ∃ k : Nat, k ≤ xs.length ∧ g = xs.length - k ∧ i = .int .i64 k ∧ (xs.take k).any p = false ∧ Below w.heap.size w wr)
 case atStart => exact ⟨0, Nat.zero_le _, rfl, rfl, rfl, Below.refl _ _⟩
 case round =>
  obtain ⟨k, hk, rfl, rfl, ht, hbel⟩ := hrel;obtain ⟨Ht, Hb⟩ := lh2 ht hbel;have hz := hbel.size;clear ht
  by_cases hlt : k < xs.length
  ·obtain ⟨b, off, rfl, hb, q0⟩ := Hs.out.int_at hlt;have p0 := (hbel.cell (p := ⟨b, off + k, none⟩) hb).trans q0;have lb : b < wr.heap.size := by omega
   have Hst : Hid ((xs.take (k + 1)).any p = p (xs.getD k 0)) := lh (by
    rw [q2u p hlt, Ht.out, Bool.false_or, List.getD_eq_getElem?_getD, List.getElem?_eq_getElem hlt];rfl)
   have hmem : xs.getD k 0 ∈ xs := by
    rw [List.getD_eq_getElem?_getD, List.getElem?_eq_getElem hlt];exact List.getElem_mem hlt
   have Hof : Hid (p (xs.getD k 0) = true -> xs.any p = true) := lh fun h => List.any_eq_true.2 ⟨_, hmem, h⟩;have Hcall := lh (Hcl.out (xs.getD k 0) wr hmem hbel);have i1 := nnn k;have i2 : (k : Int) < (xs.length : Int) := by omega
   generalize xs.getD k 0 = a at *;clear q0 hbel hmem
   go_wp2_with fail
   refine Hcall.out _ (fun w1 hb1 => ?_);have Hb2 := btt Hb hb1 hz;clear hb1 Hcall;generalize hx : p a = x at *;have Hx := lh hx;clear hx
   cases x
   ·go_wp2
    go_roundg (xs.length - (k + 1))
    case measure => omega
    case rel => exact ⟨k + 1, hlt, rfl, by go_num, Hst.out, Hb2.out⟩
   ·have hfin := lh (HR.out _ (k : Int) Hb2.out (by rw [Hof.out rfl]; exact decide_eq_true i1));go_wp2;exact hfin.out
  ·obtain rfl : k = xs.length := by omega
   rw [List.take_length] at Ht;have hfin := lh (HR.out _ (-1) hbel (by rw [Ht.out]; rfl));clear hbel;go_wp2;exact hfin.out
theorem qbq (Bp Bt : Nat) (xs : List Int) (p : Int -> Bool) (v : Value) (w : World) (h : rpInt.SL w w.heap.size xs v)
 (hcl : ∀ (a : Int) w1, a ∈ xs -> Below w.heap.size w w1 -> ∀ R : Ending -> World -> Prop, (∀ w2, Below w1.heap.size w1 w2 -> R (.returned (.bool (p a))) w2) -> Calls Tryz.prog 106 #[.int .i64 a, .pointer (some ⟨Bp, 0, none⟩), .pointer (some ⟨Bt, 0, none⟩)] w1 R) (R : Ending -> World -> Prop)
 (hR : ∀ w', Below w.heap.size w w' -> R (.returned (.bool (xs.any p))) w') :
 Calls Tryz.prog 105 #[v, .func (.func 106) #[] #[.pointer (some ⟨Bp, 0, none⟩), .pointer (some ⟨Bt, 0, none⟩)]] w R := by
 obtain ⟨HR, Hcl⟩ := lh2 hR hcl;clear hR hcl
 go_enter Tryz.func105, Tryz.ntmps105
 go_wp2_with fail
 refine qe0 Bp Bt xs p v _ h (fun a w1 ha hb => Hcl.out a w1 ha hb) _ (fun w1 r hb1 hr => ?_);have Hf := lh (HR.out _ hb1);have Hr := lh hr;clear hr hb1 h;go_wp2;rw [Hr.out];exact Hf.out
theorem q93 (P : PW) (p : Int) (r : Nat) (hr : r < P.rows.length) (w : World) (hN : PaintN P w) (R : Ending -> World -> Prop)
 (hR : ∀ w', Below w.heap.size w w' -> R (.returned (.bool (qa8 P.rows[r] P.pl p))) w') :
 Calls Tryz.prog 83 #[.pointer (some ⟨P.PB, 0, none⟩), .int .i64 (r : Int), .int .i64 p] w R := by
 obtain ⟨HR, HN⟩ := lh2 hR hN;obtain ⟨b, off, u, hA, hb, q, hu⟩ := qef hN.cl hr;obtain ⟨A3, c3, rfl, hmx3, hcap3, hs3⟩ := hu.cases_;have Hu := lh hu;have hle := hN.le;obtain ⟨W2, hW2, hb2, h1, h2⟩ := box2 w (.cells #[.pointer (some ⟨P.PB, 0, none⟩)] 93) (.cells #[.int .i64 p] 3) rfl;obtain ⟨H1, H2, Hb2⟩ := lh3 h1 h2 hb2;have HN2 := lh (hN.below hb2);have Hrow := lh (P.hrow P.rows[r] (List.getElem_mem hr));have HW2 := lh hW2.symm;have hz := hb2.size;have q2 := (hb2.cell (p := ⟨b, off + r, none⟩) (show b < w.heap.size by omega)).trans q;have lb : b < W2.heap.size := by omega
 have x0 : W2.cell? ⟨w.heap.size, 0, none⟩ = some (.pointer (some ⟨P.PB, 0, none⟩)) := cqq h1;have x2 : W2.cell? ⟨P.PB, 4, none⟩ = some (.slice P.cA P.rows.length P.cc) := by rw [qb HN2.out.bx]; rfl
 have l0 := qa h1;have l2 := qa HN2.out.bx;have k1 := nnn r;have k2 : (r : Int) < (P.rows.length : Int) := by omega
 rw [hA] at x2;generalize P.rows[r] = row at *;clear hR hN hu hs3 hb2 hW2 h1 h2 q hA
 go_enter Tryz.func83, Tryz.ntmps83
 go_upto_region 1 with fail
 rw [HW2.out]
 go_wp2_with fail
 refine qbq _ _ row (fun o => decide (iAt P.pl o.toNat = p)) _ _ (Hu.out.up (Hb2.out.mono hle) (by omega)) (fun o w3 ho hb3 R2 hR2 => ?_) _ (fun w3 hb3 => ?_)
 ·exact qd1 P _ _ p o w3 (HN2.out.below hb3) ((hb3.block _ (qa H1.out)).trans H1.out) ((hb3.block _ (qa H2.out)).trans H2.out) (Hrow.out o ho) R2 hR2
 ·have Hfin := lh (HR.out w3 (Hb2.out.trans (hb3.mono hz)));unfold qa8 at Hfin;generalize (row.any fun o => decide (iAt P.pl o.toNat = p)) = d at *;clear hb3;go_wp2;exact Hfin.out
theorem qbd (v : Value) (xs : List Int) (t : Int) (w : World) (h : rpInt.SL w w.heap.size xs v) (R : Ending -> World -> Prop)
 (hin : ∀ k : Nat, k < xs.length -> xs.getD k 0 = t -> R (.returned (.int .i64 (k : Int))) w) (hout : (∀ k, k < xs.length -> xs.getD k 0 ≠ t) -> R (.returned (.int .i64 (-1))) w) :
 Calls Tryz.prog 63 #[v, .int .i64 t] w R := by
 obtain ⟨A, c, rfl, hm, hcap, hs⟩ := h.cases_;obtain ⟨Hin, Hout⟩ := lh2 hin hout;clear hin hout h
 go_enter Tryz.func63, Tryz.ntmps63
 go_wp2
 go_loopg [5, 8] xs.length (fun g o i wr => ∃ k : Nat, k ≤ xs.length ∧ g = xs.length - k ∧ i = .int .i64 k ∧ (∀ j, j < k -> xs.getD j 0 ≠ t) ∧ wr = w)
 case atStart => exact ⟨0, Nat.zero_le _, rfl, rfl, (fun j hj => absurd hj (Nat.not_lt_zero _)), rfl⟩
 case round =>
  obtain ⟨k, hk, rfl, rfl, hne, rfl⟩ := hrel;have Hne := lh hne;clear hne
  by_cases hlt : k < xs.length
  ·obtain ⟨b, off, rfl, hb, p0⟩ := hs.int_at hlt;have i1 := nnn k;have i2 : (k : Int) < (xs.length : Int) := by omega
   have Hk : Hid (xs.getD k 0 = t -> R (.returned (.int .i64 (k : Int))) wr) := Hin.out k hlt;obtain ⟨x, hx⟩ : ∃ x, xs.getD k 0 = x := ⟨_, rfl⟩;rw [hx] at p0 Hk;have Hx := lh hx;clear hx
   by_cases hxt : t = x
   ·subst hxt;have HR : Hid (R (.returned (.int .i64 (k : Int))) wr) := Hk.out rfl;clear Hk Hin Hout;go_wp2;exact HR.out
   ·have hb' : (t == x) = false := by simp [hxt]
    go_wp2
    go_roundg (xs.length - (k + 1))
    case measure => omega
    case rel =>
     refine ⟨k + 1, by omega, rfl, by go_num, fun j hj => ?_, rfl⟩
     rcases Nat.lt_succ_iff_lt_or_eq.1 hj with h1 | rfl
     ·exact Hne.out j h1
     ·rw [Hx.out]; exact fun e => hxt e.symm
  ·obtain rfl : k = xs.length := by omega
   have HR : Hid (R (.returned (.int .i64 (-1))) wr) := Hout.out Hne.out;clear Hin Hout Hne;go_wp2;exact HR.out
theorem q2a (v : Value) (xs : List Int) (t : Int) (w : World) (h : rpInt.SL w w.heap.size xs v) (R : Ending -> World -> Prop)
 (hR : R (.returned (.bool (decide (t ∈ xs)))) w) :
 Calls Tryz.prog 30 #[v, .int .i64 t] w R := by
 have HR := lh hR;clear hR
 go_enter Tryz.func30, Tryz.ntmps30
 go_wp2_with fail
 refine qbd _ xs t _ h _ (fun k hk e => ?_) (fun hn => ?_)
 ·have hin : decide (t ∈ xs) = true := by
   have : t ∈ xs := by rw [<- e, List.getD_eq_getElem?_getD, List.getElem?_eq_getElem hk]; exact List.getElem_mem hk
   simp [this]
  rw [hin] at HR;have i1 := nnn k;clear hin;go_wp2;exact HR.out
 ·have hin : decide (t ∈ xs) = false := by
   have : t ∉ xs := by
    intro hm;obtain ⟨k, hk, e⟩ := List.getElem_of_mem hm;exact hn k hk (by rw [List.getD_eq_getElem?_getD, List.getElem?_eq_getElem hk]; exact e)
   simp [this]
  rw [hin] at HR;clear hin hn;go_wp2;exact HR.out
def freeI (gv acl row pl : List Int) (r p : Int) : Bool := decide (p ∈ gv) && (decide (6 ≤ p) || !decide (r ∈ acl)) && !qa8 row pl p
theorem IntAt.SLn {g cp : Nat} {S : List Int} {w : World} (h : IntAt g S w) (hm : S.length ≤ maxLen ∧ S.length ≤ cp) : rpInt.SL w w.heap.size S (.slice (some ⟨g, 0, none⟩) S.length cp) := h.SL hm.1 hm.2
theorem qgk (P : PW) (p : Int) (r : Nat) (hr : r < P.rows.length) (w : World) (hN : PaintN P w) (R : Ending -> World -> Prop)
 (hR : ∀ w', Below w.heap.size w w' -> R (.returned (.bool (freeI P.gv P.acl P.rows[r] P.pl (r : Int) p))) w') :
 Calls Tryz.prog 82 #[.pointer (some ⟨P.PB, 0, none⟩), .int .i64 (r : Int), .int .i64 p] w R := by
 unfold freeI at hR;obtain ⟨HR, HN⟩ := lh2 hR hN;have x2 : w.cell? ⟨P.PB, 5, none⟩ = some (.slice P.aA P.acl.length P.ac) := by rw [qb hN.bx]; rfl
 have x3 : w.cell? ⟨P.PB, 6, none⟩ = some (.slice (some ⟨P.gg, 0, none⟩) P.gv.length P.cg) := by rw [qb hN.bx]; rfl
 have l2 := qa hN.bx;have hT := lh (q93 P p r hr w hN);have hA := lh (q2a (.slice P.aA P.acl.length P.ac) P.acl (r : Int) w (hN.ac.up (Below.refl _ _) hN.le));have hG := lh (q2a (.slice (some ⟨P.gg, 0, none⟩) P.gv.length P.cg) P.gv p w (hN.gv.SLn hN.mg));generalize qa8 P.rows[r] P.pl p = t at *;generalize decide (p ∈ P.gv) = g at *;generalize decide ((r : Int) ∈ P.acl) = a at *;have hx : (6 : Int) ≤ p ∨ ¬ (6 : Int) ≤ p := by omega
 clear hR hN
 go_enter Tryz.func82, Tryz.ntmps82
 rcases hx with hx | hx
 ·have hd := lh (decide_eq_true hx)
  go_wp2_with fail
  refine hG.out _ ?_
  cases g
  ·go_wp2
   all_goals (have := HR.out w (Below.refl _ _); simpa [hd.out] using this)
  ·go_wp2_with fail
   refine hT.out _ (fun w1 hb1 => ?_);have := HR.out w1 hb1;have HF := lh this
   cases t
   all_goals (go_wp2; simpa [hd.out] using HF.out)
 ·have hd := lh (decide_eq_false hx)
  go_wp2_with fail
  refine hA.out _ ?_
  cases a
  ·go_wp2_with fail
   refine hG.out _ ?_
   cases g
   ·go_wp2
    all_goals (have := HR.out w (Below.refl _ _); simpa [hd.out] using this)
   ·go_wp2_with fail
    refine hT.out _ (fun w1 hb1 => ?_);have := HR.out w1 hb1;have HF := lh this
    cases t
    all_goals (go_wp2; simpa [hd.out] using HF.out)
  ·go_wp2_with fail
   refine hG.out _ ?_
   cases g
   all_goals (go_wp2; have := HR.out w (Below.refl _ _); simpa [hd.out] using this)
end Go.Proofs.YtdanebboiekieaaGreatDoor
namespace Go.Proofs.YtdanebboiekieaaGreatDoor
open Go.RowKit Go.Shelf
attribute [local go_sem] Oper.semAt_some
theorem qd5 (p : Value) (b : Nat) (hp : p = .pointer (some ⟨b, 0, none⟩)) (r : Int) (w : World) (R : Ending -> World -> Prop)
 (hR : R (.returned (.func (.func 104) #[] #[.pointer (some ⟨w.heap.size + 1, 0, none⟩), .pointer (some ⟨w.heap.size, 0, none⟩)])) ((w.alloc (Obj.cells #[p] 93)).alloc (Obj.cells #[.int .i64 r] 3))) :
 Calls Tryz.prog 81 #[p, .int .i64 r] w R := by
 subst hp;have HR := lh hR;clear hR
 go_enter Tryz.func81, Tryz.ntmps81
 go_wp2;exact HR.out
theorem qd2 {row pl : List Int} {n : Nat} (hl : pl.length = n) (h : ∀ o ∈ row, 0 ≤ o ∧ o < (n : Int)) (p : Int) : qa8 row pl p = q2g row pl p := by
 unfold qa8 q2g;rw [Bool.eq_iff_iff, List.any_eq_true, List.any_eq_true]
 have key : ∀ o ∈ row, iAt pl o.toNat = pl.getD o.toNat (-1) := fun o ho => by
  have := h o ho;unfold iAt;rw [List.getD_eq_getElem?_getD, List.getD_eq_getElem?_getD, List.getElem?_eq_getElem (by omega)];rfl
 constructor
 ·rintro ⟨o, ho, h1⟩;exact ⟨o, ho, by rw [<- key o ho]; exact h1⟩
 ·rintro ⟨o, ho, h1⟩;exact ⟨o, ho, by rw [key o ho]; exact h1⟩
def PW.wishA (P : PW) (r : Nat) : List Int := P.f.blocks.flatMap (asksJ P.pl r) ++ (if (r : Int) < P.f.params then [(r : Int)] else []) ++ P.gv
def PW.row (P : PW) (r : Nat) : List Int := P.rows.getD r []
def PW.fr (P : PW) (r : Nat) (p : Int) : Bool := freeI P.gv P.acl (P.row r) P.pl (r : Int) p
def PW.paint (P : PW) (r : Nat) : Int :=
 match (P.wishA r).find? (P.fr r) with
 | some p => p
 | none => slotP (q2g (P.row r) P.pl)
theorem qfl {fn : Func} {p : Tmp} (h : fn.results = #[.cell p 3]) {tmps : Array Value} {b : Nat} {w : World} {x : Value} (hp : tmps.getD p undef = .pointer (some ⟨b, 0, none⟩))
 (hc : w.cell? ⟨b, 0, none⟩ = some x) : (results fn tmps).run Tryz.prog w = .ok x w := by
 rw [Array.getD_eq_getD_getElem?] at hp;simp [results, h, hp, go_sem, hc]
theorem qic {α : Type} {f : α -> Bool} {l pre : List α} {v : α} (hp : pre ++ [v] <+: l) (h1 : ∀ x ∈ pre, f x = false) (h2 : f v = true) : l.find? f = some v := by
 obtain ⟨t, rfl⟩ := hp;rw [List.append_assoc, List.find?_append, List.find?_eq_none.2 (fun x hx => by rw [h1 x hx]; decide)];simp [h2]
theorem qe8 (P : PW) (r : Nat) (hr : r < P.rows.length) (hx : ∀ b ∈ P.f.blocks, ∀ x ∈ b.list, x.op = 1 -> x.a.reg = true -> (0 ≤ x.dst ∧ x.dst < (P.n : Int)) ∧ (0 ≤ x.a.n ∧ x.a.n < (P.n : Int)))
 (hmx : P.f.blocks.length ≤ maxLen ∧ P.gv.length ≤ maxLen ∧ ∀ b ∈ P.f.blocks, b.list.length ≤ maxLen) (h100 : (P.row r).length ≤ 100) (w : World) (hN : PaintN P w) (R : Ending -> World -> Prop)
 (hR : ∀ w', Below w.heap.size w w' -> R (.returned (.int .i64 (P.paint r))) w') :
 Calls Tryz.prog 46 #[.pointer (some ⟨P.PB, 0, none⟩), .int .i64 (r : Int)] w R := by
 have hrow : P.row r = P.rows[r] := by
  unfold PW.row;rw [List.getD_eq_getElem?_getD, List.getElem?_eq_getElem hr];rfl
 obtain ⟨Hrow, HR, HN⟩ := lh3 hrow hR hN;have lPB := qa hN.bx;clear hR hrow;refine (callsIn_wide (n := 7)).1 ?_;refine callsIn_of_wp_marks Tryz.func46 rfl trivial ?_ rfl;simp only [Tryz.ntmps46, List.size_toArray, List.length_cons, List.length_nil, Nat.reduceAdd, Nat.reduceSub, Array.replicate_succ, Array.replicate_zero, List.push_toArray, List.append_toArray, List.nil_append, List.cons_append]
 gi_wp2
 refine ⟨trivial, callsIn_wide.2 (qd5 _ _ rfl _ _ _ ?_)⟩
 gi_wp2
 obtain ⟨B, hB⟩ := nmm (w.heap.size);obtain ⟨W3, hW3⟩ : ∃ W3, W3 = (((((w.alloc (Obj.cells #[.pointer (some ⟨P.PB, 0, none⟩)] 93)).alloc (Obj.cells #[.int .i64 (r : Int)] 3)).alloc (Obj.cells #[.int .i64 0] 3)).alloc (Obj.cells #[.pointer (some ⟨P.PB, 0, none⟩)] 93)).alloc (Obj.cells #[.int .i64 (r : Int)] 3)) := ⟨_, rfl⟩;have hsz : W3.heap.size = B + 5 := by subst hW3 hB; simp
 have hb3 : Below w.heap.size w W3 := by subst hW3; exact bl0
 have hc0 : W3.heap[B]? = some (.cells #[.pointer (some ⟨P.PB, 0, none⟩)] 93 (0, 0)) := by
  subst hW3;exact (qf (qf (qf (qf (by have := heap_alloc_new w (Obj.cells #[.pointer (some ⟨P.PB, 0, none⟩)] 93); rwa [show w.heap.size = B from by subst hB; simp] at this) _) _) _) _)
 have hc1 : W3.heap[B + 1]? = some (.cells #[.int .i64 (r : Int)] 3 (0, 0)) := by
  subst hW3;exact (qf (qf (qf (by have := heap_alloc_new (w.alloc (Obj.cells #[.pointer (some ⟨P.PB, 0, none⟩)] 93)) (Obj.cells #[.int .i64 (r : Int)] 3); rwa [show (w.alloc (Obj.cells #[.pointer (some ⟨P.PB, 0, none⟩)] 93)).heap.size = B + 1 from by subst hB; simp] at this) _) _) _)
 have hc2 : W3.heap[B + 1 + 1]? = some (.cells #[.int .i64 0] 3 (0, 0)) := by
  subst hW3;exact (qf (qf (by have := heap_alloc_new ((w.alloc (Obj.cells #[.pointer (some ⟨P.PB, 0, none⟩)] 93)).alloc (Obj.cells #[.int .i64 (r : Int)] 3)) (Obj.cells #[.int .i64 0] 3); rwa [show ((w.alloc (Obj.cells #[.pointer (some ⟨P.PB, 0, none⟩)] 93)).alloc (Obj.cells #[.int .i64 (r : Int)] 3)).heap.size = B + 1 + 1 from by subst hB; simp] at this) _) _)
 have hc3 : W3.heap[B + 1 + 1 + 1]? = some (.cells #[.pointer (some ⟨P.PB, 0, none⟩)] 93 (0, 0)) := by
  subst hW3;exact (qf (by have := heap_alloc_new (((w.alloc (Obj.cells #[.pointer (some ⟨P.PB, 0, none⟩)] 93)).alloc (Obj.cells #[.int .i64 (r : Int)] 3)).alloc (Obj.cells #[.int .i64 0] 3)) (Obj.cells #[.pointer (some ⟨P.PB, 0, none⟩)] 93); rwa [show (((w.alloc (Obj.cells #[.pointer (some ⟨P.PB, 0, none⟩)] 93)).alloc (Obj.cells #[.int .i64 (r : Int)] 3)).alloc (Obj.cells #[.int .i64 0] 3)).heap.size = B + 1 + 1 + 1 from by subst hB; simp] at this) _)
 have hc4 : W3.heap[B + 1 + 1 + 1 + 1]? = some (.cells #[.int .i64 (r : Int)] 3 (0, 0)) := by
  subst hW3;exact (by have := heap_alloc_new ((((w.alloc (Obj.cells #[.pointer (some ⟨P.PB, 0, none⟩)] 93)).alloc (Obj.cells #[.int .i64 (r : Int)] 3)).alloc (Obj.cells #[.int .i64 0] 3)).alloc (Obj.cells #[.pointer (some ⟨P.PB, 0, none⟩)] 93)) (Obj.cells #[.int .i64 (r : Int)] 3); rwa [show ((((w.alloc (Obj.cells #[.pointer (some ⟨P.PB, 0, none⟩)] 93)).alloc (Obj.cells #[.int .i64 (r : Int)] 3)).alloc (Obj.cells #[.int .i64 0] 3)).alloc (Obj.cells #[.pointer (some ⟨P.PB, 0, none⟩)] 93)).heap.size = B + 1 + 1 + 1 + 1 from by subst hB; simp] at this)
 rw [show (((((w.alloc (Obj.cells #[.pointer (some ⟨P.PB, 0, none⟩)] 93)).alloc (Obj.cells #[.int .i64 (r : Int)] 3)).alloc (Obj.cells #[.int .i64 0] 3)).alloc (Obj.cells #[.pointer (some ⟨P.PB, 0, none⟩)] 93)).alloc (Obj.cells #[.int .i64 (r : Int)] 3)) = W3 from hW3.symm, <- hB];have hle : P.b0 ≤ B := by have := HN.out.le; omega
 have hlp : P.gp < B := by have := HN.out.pl.lt; omega
 have hlg : P.gg < B := by have := HN.out.gv.lt; omega
 have hlP : P.PB < B := by omega
 obtain ⟨HB, HSZ⟩ := lh2 hB hsz;clear hW3 lPB;obtain ⟨Hc0, Hc1, Hc2⟩ := lh3 hc0 hc1 hc2;have HN3 := lh (HN.out.below hb3);have Hb3 := lh hb3;obtain ⟨Q, hQ⟩ : ∃ Q : WP, Q = ⟨P.f, P.pl, P.gv, r, P.nm, .slice P.cA P.rows.length P.cc, .slice P.aA P.acl.length P.ac, P.A, P.cb, P.PB, B + 1 + 1 + 1 + 1, B + 1 + 1 + 1, P.gp, P.cp, P.gg, P.cg, P.b0, B + 1 + 1, P.n, P.hpl, hx⟩ := ⟨_, rfl⟩;have HQw : Hid (Q.wishL = P.wishA r) := lh (by subst hQ; rfl)
 have hWN : WishN Q W3 := by
  subst hQ;exact ⟨hc4, hc3, HN3.out.bx, HN3.out.bl, HN3.out.pl, HN3.out.gv, ⟨by show B + 1 + 1 + 1 + 1 ≠ B + 1 + 1; omega, by show B + 1 + 1 + 1 ≠ B + 1 + 1; omega, by show P.PB ≠ B + 1 + 1; omega, by show P.gp ≠ B + 1 + 1; omega, by show P.gg ≠ B + 1 + 1; omega⟩, by show P.b0 ≤ B + 1 + 1; omega, by show B + 1 + 1 < W3.heap.size; omega⟩
 have hst := qb2 6 (by decide) Q (by subst hQ; exact hmx) W3 hWN;rw [show Q.Br = B + 1 + 1 + 1 + 1 by rw [hQ], show Q.Bp = B + 1 + 1 + 1 by rw [hQ], show Q.Rc = B + 1 + 1 by rw [hQ], HQw.out] at hst;have Hst := lh hst;clear hst hWN hQ HQw hc0 hc1 hc2 hc3 hc4 hb3 hB hsz
 refine wpIn_rangeFunc_ownH (F := Fence.wide) rfl (by decide) (gf := 104) (lb := #[.pointer (some ⟨B + 1 + 1 + 1 + 1, 0, none⟩), .pointer (some ⟨B + 1 + 1 + 1, 0, none⟩)]) rfl trivial (enters_of Tryz.func104 (by kernel_rfl) rfl)
  Hst.out (fun h k => h.trans k) (fun W l o o' _ h1 h2 _ => CKeep.putObj W l o o' h1 h2) (Below.refl _ _) (fun _ => rfl)
  (fun pre W => Below W3.heap.size W3 W ∧ ∀ v ∈ pre, P.fr r v = false)
  (fun c pre W => c = Code.ret ∧ Below w.heap.size w W ∧ ∃ l v, pre = l ++ [v] ∧ (∀ x ∈ l, P.fr r x = false) ∧ P.fr r v = true ∧ W.heap[B + 1 + 1]? = some (.cells #[.int .i64 v] 3 (0, 0)))
  ?own ?ownx ⟨Below.refl _ _, fun _ h => by cases h⟩
  (fun v a' W => a' = { tmps := #[.pointer (some ⟨P.PB, 0, none⟩), .int .i64 (r : Int), .pointer (some ⟨B, 0, none⟩), .pointer (some ⟨B + 1, 0, none⟩), .pointer (some ⟨B + 1 + 1, 0, none⟩), .int .i64 v, undef, .pointer (some ⟨P.PB, 0, none⟩), .int .i64 (r : Int), .func (.func 104) #[] #[.pointer (some ⟨B + 1 + 1 + 1 + 1, 0, none⟩), .pointer (some ⟨B + 1 + 1 + 1, 0, none⟩)], .int .i64 v, undef, undef, undef, undef, undef, undef, undef, undef, undef, undef, undef, undef], defers := [] })
  (fun v a' s X Y row hs hg hr => hs) ?assign ?body ?done ?stop
 case own =>
  intro s X Y row hs hg hr;exact ⟨ownFrom_below (Nat.le_refl _) (Nat.le_refl _) () X Y row hs.1 hg hr, hs.2⟩
 case ownx =>
  rintro c s X Y row ⟨h1, h2, l, v, h3, h4, h5, h6⟩ hg hr;exact ⟨h1, ownFrom_below (Nat.le_refl _) Hb3.out.size () X Y row h2 hg hr, l, v, h3, h4, h5, q2s _ _ _ _ W3.heap.size () X Y row h6 hg hr⟩
 case assign =>
  rintro l pre v W K ⟨hI, hF⟩ hK
  gi_wp2
  exact hK _ _ (KeepsFrom.refl _ _) (CKeep.refl _ _) ⟨hI, hF⟩ rfl
 case body =>
  rintro l pre v a' W hl ⟨rr, hrr⟩ ⟨hI, hF⟩ rfl hlen;have hi0 := (hI.block _ (qa Hc0.out)).trans Hc0.out;have hi1 := (hI.block _ (qa Hc1.out)).trans Hc1.out;have hi2 := (hI.block _ (qa Hc2.out)).trans Hc2.out;have x0 : W.cell? ⟨B, 0, none⟩ = some (.pointer (some ⟨P.PB, 0, none⟩)) := cqq hi0;have x1 : W.cell? ⟨B + 1, 0, none⟩ = some (.int .i64 (r : Int)) := cqq hi1;have l0 := qa hi0;have l1 := qa hi1;obtain ⟨HI, HF⟩ := lh2 hI hF;clear hI hF hi0 hi1 hi2
  gi_wp2
  refine ⟨trivial, CallsIn.inRound l (callsIn_wide.2 (qgk P v r hr _ (HN3.out.below HI.out) _ (fun w1 hb1 => ?_)))⟩;have HI1 := lh (HI.out.trans (hb1.mono HI.out.size));have Hb1 := lh hb1;rw [<- Hrow.out];have hfr : freeI P.gv P.acl (P.row r) P.pl (r : Int) v = P.fr r v := rfl;rw [hfr];clear hfr hb1 x0 x1 l0 l1
  cases hv : P.fr r v
  ·gi_wp2
   exact ⟨KeepsFrom.of_grownBy (qw Hb1.out none) (fun j e => by cases e), CKeep.of_below Hb1.out, HI1.out, fun x hx => by
    rcases List.mem_append.1 hx with h | h
    ·exact HF.out x h
    ·rw [List.mem_singleton.1 h]; exact hv⟩
  ·have hi2 := (HI1.out.block _ (qa Hc2.out)).trans Hc2.out;have x2 : w1.cell? ⟨B + 1 + 1, 0, none⟩ = some (.int .i64 0) := cqq hi2;have l2 := qa hi2;have y2 := fzz hi2 0;have Hi2 := lh hi2;clear hi2
   gi_wp2
   have hblk : (w1.setCell ⟨B + 1 + 1, 0, none⟩ (.int .i64 v)).heap[B + 1 + 1]? = some (.cells #[.int .i64 v] 3 (0, 0)) := q0h (j := 0) Hi2.out _;have hg1 : W.grownBy (w1.setCell ⟨B + 1 + 1, 0, none⟩ (.int .i64 v)) (some (B + 1 + 1)) := (qw Hb1.out _).trans (q04 _ _ _);refine ⟨KeepsFrom.of_grownBy hg1 (fun j e => by cases e; have := HSZ.out; omega), rfl, ?_, pre, v, rfl, HF.out, hv, hblk⟩;exact (Hb3.out.trans (HI.out.mono Hb3.out.size)).grown hg1 (Nat.le_trans Hb3.out.size HI.out.size) (fun k e => by cases e; have := HB.out; omega)
 case done =>
  rintro D xs W hD rfl ⟨hI, hF⟩ hK;obtain ⟨HI, HF, HK, HD⟩ := lh4 hI hF hK hD;clear hI hF hK hD;obtain ⟨J, hJ1, hJ2, hJ3, hJ4⟩ := qke (row := P.row r) (pl := P.pl) h100
  have HJ2 : Hid (P.paint r = 16 + (J : Int)) := lh (by
   unfold PW.paint;rw [List.find?_eq_none.2 (fun x hx => by rw [HF.out x hx]; decide)];exact hJ2)
  obtain ⟨HJ3, HJ4⟩ := lh2 hJ3 hJ4;clear hJ2 hJ3 hJ4
  gi_wp2
  gi_loopw [6] (fun i wr => ∃ j : Nat, j ≤ J ∧ i = .int .i64 (16 + (j : Int)) ∧ Hid (Below W.heap.size W wr))
   (fun i _ => J - (intOf i - 16).toNat)
  case atStart => exact ⟨0, Nat.zero_le _, rfl, lh (Below.refl _ _)⟩
  case round =>
   obtain ⟨j, hj, rfl, HW⟩ := hrel;have HI2 := lh (HI.out.trans (HW.out.mono HI.out.size));have hi0 := (HI2.out.block _ (qa Hc0.out)).trans Hc0.out;have hi1 := (HI2.out.block _ (qa Hc1.out)).trans Hc1.out;have x0 : wr.cell? ⟨B, 0, none⟩ = some (.pointer (some ⟨P.PB, 0, none⟩)) := cqq hi0;have x1 : wr.cell? ⟨B + 1, 0, none⟩ = some (.int .i64 (r : Int)) := cqq hi1;have l0 := qa hi0;have l1 := qa hi1;clear hi0 hi1
   gi_wp2
   refine ⟨trivial, callsIn_wide.2 (q93 P (16 + (j : Int)) r hr _ (HN3.out.below HI2.out) _ (fun w1 hb1 => ?_))⟩;rw [<- Hrow.out, qd2 P.hpl (by rw [Hrow.out]; exact P.hrow _ (List.getElem_mem hr))];have HW1 := lh (HW.out.trans (hb1.mono HW.out.size));have HI1 := lh (HI.out.trans (HW1.out.mono HI.out.size));clear hb1 x0 x1 l0 l1
   cases hv : q2g (P.row r) P.pl (16 + (j : Int))
   ·have hjJ : J = j := by
     rcases Nat.lt_or_ge j J with h | h
     ·rw [HJ4.out j h] at hv; cases hv
     ·omega
    subst hjJ;have hi2 := (HI1.out.block _ (qa Hc2.out)).trans Hc2.out;have x2 : w1.cell? ⟨B + 1 + 1, 0, none⟩ = some (.int .i64 0) := cqq hi2;have l2 := qa hi2;have y2 := fzz hi2 0;have Hi2 := lh hi2;have HK1 := lh ((HW1.out.block D (Array.getElem?_eq_some_iff.1 HK.out).1).trans HK.out);clear hi2 hv
    gi_wp2
    have hblk : (w1.setCell ⟨B + 1 + 1, 0, none⟩ (.int .i64 (16 + (J : Int)))).heap[B + 1 + 1]? = some (.cells #[.int .i64 (16 + (J : Int))] 3 (0, 0)) := q0h (j := 0) Hi2.out _;have hDr : D ≠ B + 1 + 1 := by have := HD.out; have := HSZ.out; omega
    have hKs : (w1.setCell ⟨B + 1 + 1, 0, none⟩ (.int .i64 (16 + (J : Int)))).heap[D]? = some (.deferred (some [])) := (Below.heap_setCell _ _ _ _ hDr).trans HK1.out;have hbe : Below w.heap.size w (w1.setCell ⟨B + 1 + 1, 0, none⟩ (.int .i64 (16 + (J : Int)))) := (Hb3.out.trans (HI1.out.mono Hb3.out.size)).grown (q04 _ _ _) (Nat.le_trans Hb3.out.size HI1.out.size) (fun k e => by cases e; have := HB.out; show w.heap.size ≤ B + 1 + 1; omega);refine q1v (n₀ := w.heap.size) hbe.size (.cons (Nat.le_trans Hb3.out.size HD.out) hKs (fun _ h => by cases h) .nil) (fun w' hsh => ?_);have hblk' := hsh.cells _ _ hblk (fun x e => by cases e);refine ⟨_, qfl (by rfl) (by rfl) (show w'.cell? ⟨B + 1 + 1, 0, none⟩ = some (.int .i64 (16 + (J : Int))) by rw [qb hblk']; rfl), ?_⟩;rw [<- HJ2.out];exact HR.out w' (hbe.trans hsh.bel)
   ·have hjJ : j < J := by
     rcases Nat.lt_or_ge j J with h | h
     ·exact h
     ·have : j = J := by omega
      subst this;rw [HJ3.out] at hv
      cases hv
    clear hv
    gi_wp2
    go_roundw
    case rel => exact ⟨j + 1, by omega, by go_num, HW1⟩
    case measure => simp [intOf] <;> omega
 case stop =>
  rintro D c pre W hD hpre ⟨rfl, hbw, l, v, rfl, h4, h5, h6⟩ hK
  have HFd : Hid (P.paint r = v) := lh (by
   unfold PW.paint;rw [qic hpre h4 h5])
  gi_wp2
  refine q1v (n₀ := w.heap.size) hbw.size (.cons (Nat.le_trans Hb3.out.size hD) hK (fun _ h => by cases h) .nil) (fun w' hsh => ?_);have hblk' := hsh.cells _ _ h6 (fun x e => by cases e);refine ⟨_, qfl (by rfl) (by rfl) (show w'.cell? ⟨B + 1 + 1, 0, none⟩ = some (.int .i64 v) by rw [qb hblk']; rfl), ?_⟩;rw [<- HFd.out];exact HR.out w' (hbw.trans hsh.bel)
end Go.Proofs.YtdanebboiekieaaGreatDoor
