/- Moves that are put into a row, and done: the helpers of the laws. -/
import Derived.Test.YtmlmnhhgdcfchaaLib
import Derived.Test.YtmlmnhhgdcfchaaRows
import Derived.IntWalk
import Derived.Deep.LoopGhost
import Derived.Test.YtmlmnhhgdcfchaaLib4
import Derived.Test.YtmlmnhhgdcfchaaMoves8
namespace Go.Proofs.Ytmlmnhhgdcfchaa
open Go.RowKit
set_option linter.unusedSimpArgs false
set_option linter.unusedVariables false

theorem eql_Move (m n : Move) (w : World) : (binOp .eql 47 (.agg #[.int .i64 m.to, .int .i64 m.src]) (.agg #[.int .i64 n.to, .int .i64 n.src])).run Try.prog w = .ok (.bool (decide (m = n))) w := by
  have hp : Try.prog.stoodInHeld 47 = false := by kernel_rfl
  have ht : Try.prog.underlying 47 = some (.struct (Try.prog.fieldsOf 47)) := by kernel_rfl
  rw [run_eql_struct, run_equalIn_agg _ _ _ _ _ ht hp]
  have h3 := Try.underlying3
  simp [Try.underlying47, go_sem, h3]
  have e : m = n ↔ m.to = n.to ∧ m.src = n.src := by
    cases m
    cases n
    simp
  by_cases h1 : m.to = n.to <;> by_cases h2 : m.src = n.src <;> simp [e, h1, h2]

theorem SLMove_News {w : World} {B : Nat} {xs : List Move} {A : Option Addr} {n c : Nat} (h : rpMove.SL w B xs (.slice A n c)) : News w A n 2 (xs.flatMap Move.cells) :=
  Rp.SL.news (r := rpMove) (fun _ _ _ _ h => rpMove_rep.1 h) Move.cells_length (by decide) h

theorem row_probe : row 10 [⟨1, 2⟩] = [⟨1, 2⟩] := by decide
theorem fault_probe : movesFault [⟨1, 2⟩] 10 = (0, 0) := by decide

set_option maxRecDepth 100000 in
set_option maxHeartbeats 1000000 in
theorem rowed_calls (v : Value) (xs : List Move) (w : World) (h : rpMove.SL w w.heap.size xs v) (hf : movesFault xs 10 = (0, 0)) (hn : xs.length ≤ 100) (hfine : Fine 10 xs) (R : Ending → World → Prop)
    (hR : ∀ w' v', Below w.heap.size w w' → w'.ownsRow w.heap.size 47 2 v' (row 10 xs).length ((row 10 xs).flatMap Move.cells) → R (.returned (.tuple #[v', .bool true])) w') :
    Calls Try.prog 20 #[v] w R := by
  obtain ⟨i0, hi, hz0, hz1, hz2⟩ := info_parts info_Move
  obtain ⟨A, n, rfl, hm, hcap, h⟩ := h.cases_
  have hnews := SLMove_News h
  have HR := Lib.hid hR
  have Hf := Lib.hid hf
  have Hfine := Lib.hid hfine
  clear hR hf hfine
  go_enter Try.func20, Try.ntmps20
  go_wp2_with (at_builtin; refine wpList_append_news _ rfl _ _ 34 rfl w.heap.size 47 i0 _ 2 16 Try.underlying34 hi hz0 hz1 hz2 rfl (by decide) (.slice none 0 0) 0 [] rfl (World.ownsRow_nil _ _ _ _) A xs.length n (xs.flatMap Move.cells) rfl hnews ?_ ?_ ?_ ?_ ?_)
  · exact flat_one xs
  · unfold maxLen; omega
  · omega
  · omega
  · intro v1 w1 hown1 hgrow1 _
    have hown1 : w1.ownsRow w.heap.size 47 2 v1 xs.length (xs.flatMap Move.cells) := by simpa using hown1
    have hb1 : Below w.heap.size w w1 := (Below.refl _ _).grown hgrow1 (Nat.le_refl _) (fun k hk => by simp [Value.ownBlock] at hk)
    have hs1 : rpMove.SL w1 w1.heap.size xs v1 := SLMove_own hown1 (Nat.le_refl _)
    have hz1 : w.heap.size ≤ w1.heap.size := hb1.size
    clear hown1 hgrow1 hnews
    go_wp2_with fail
    refine Row_good _ xs _ _ hs1 Hf.out hn Hfine.out _ ?_
    intro w2 v2 hb2 ho2
    obtain ⟨A2, c2, rfl⟩ := own_slice ho2
    have hz2 : w1.heap.size ≤ w2.heap.size := hb2.size
    go_wp2_with fail
    refine Row_good _ [⟨1, 2⟩] _ _ ?_ fault_probe (by decide) (by constructor <;> simp) _ ?_
    · refine SLMove_own (base := 0) (e := 47) ⟨rfl, .inr ⟨w2.heap.size + 1, 1, #[.int .i64 1, .int .i64 2], rfl, Nat.zero_le _, ?_, Nat.le_refl _, by decide, rfl, rfl⟩⟩ (Nat.le_refl _)
      have := heap_alloc_new (w2.alloc (.cells #[.int .i64 0, .int .i64 0] 27)) (.cells #[.int .i64 1, .int .i64 2] 47)
      simpa using this
    intro w3 v3 hb3 ho3
    rw [row_probe] at ho3
    obtain ⟨g, c3, rfl, hbg, hg3, hnc3, hmx3⟩ := own_some ho3 (by decide)
    obtain ⟨b', off', m', hA', _, e', p0, p1⟩ := (SLMove_own ho3 (Nat.le_refl _)).move_at (k := 0) (by decide)
    injection hA' with hA'
    injection hA' with hA1 hA2
    subst hA1 hA2
    injection e' with e'
    subst e'
    have p0' : w3.cell? ⟨g, 0, none⟩ = some (.int .i64 1) := by simpa using p0
    have p1' : w3.cell? ⟨g, 1, none⟩ = some (.int .i64 2) := by simpa using p1
    obtain ⟨hc3, hf3⟩ := bcell hb3
    have hz3 : w2.heap.size + 1 < w3.heap.size := by have := hb3.size; simp at this; omega
    have hz4 : w2.heap.size < w3.heap.size := by omega
    have hms : Try.prog.eqGuardType Try.prog.depth 47 = false := by kernel_rfl
    have heq := eql_Move ⟨1, 2⟩ ⟨1, 2⟩
    rw [decide_eq_true rfl] at heq
    have H3 : Hid (Below w.heap.size w w3 ∧ w3.ownsRow w.heap.size 47 2 (.slice A2 (row 10 xs).length c2) (row 10 xs).length ((row 10 xs).flatMap Move.cells)) := by
      refine ⟨(by repeat (first | exact Below.refl _ _ | assumption | refine below_drewN ?_ _ | refine Below.drew ?_ | refine Below.setCell ?_ (by first | omega | (simp; done) | (simp; omega)) _ | refine Below.alloc ?_ (by first | omega | (simp; done) | (simp; omega)) _ | refine below_step (by assumption) ?_ (by first | omega | (simp; done) | (simp; omega)))), ownsRow_base (own_below ((ho2.alloc _).alloc _) hb3) hz1⟩
    generalize row 10 xs = rr at *
    clear p0 p1 ho2 ho3 hs1 hown1 hb1 hb2 hb3 h
    go_wp2_with fail
    go_quiet (fail)
    go_wp2
    exact HR.out _ _ (below_drewN (H3.out.1.alloc (by have := H3.out.1.size; exact this) _) _) (H3.out.2.alloc _)

theorem info_int : (Try.prog.info? 3).map (fun i => (i.zero, i.size, i.bytes)) = some (some (.int .i64 0), 1, 8) := by kernel_rfl
def tens : List Int := (List.range 11).map fun (i : Nat) => (100 : Int) + (i : Int)
def setPlace (ws : List Int) (m : Move) : List Int := ws.set m.to.toNat (ws.getD m.src.toNat 0)
theorem map_set_cells (X : List Int) (t : Nat) (v : Int) (h : t < X.length) : (X.map (Value.int .i64)).take t ++ [.int .i64 v] ++ (X.map (Value.int .i64)).drop (t + 1) = (X.set t v).map (Value.int .i64) := by
  rw [List.map_set, List.set_eq_take_append_cons_drop, if_pos (by simpa using h)]
  simp
def placedL (l : List Move) : List Int := l.foldl setPlace tens
theorem setPlace_length (ws : List Int) (m : Move) : (setPlace ws m).length = ws.length := by simp [setPlace]
theorem placed_length : ∀ (l : List Move) (ws : List Int), (l.foldl setPlace ws).length = ws.length
  | [], _ => rfl
  | m :: l, ws => by rw [List.foldl_cons, placed_length l, setPlace_length]

set_option maxRecDepth 100000 in
set_option maxHeartbeats 1000000 in
theorem placed_calls (v : Value) (xs : List Move) (w : World) (h : rpMove.SL w w.heap.size xs v) (hr : ∀ m ∈ xs, 0 ≤ m.to ∧ m.to ≤ 10 ∧ 0 ≤ m.src ∧ m.src ≤ 10) (R : Ending → World → Prop)
    (hR : ∀ w' v', Below w.heap.size w w' → w'.ownsRow w.heap.size 3 1 v' 11 ((placedL xs).map (Value.int .i64)) → R (.returned (.tuple #[v', .bool true])) w') :
    Calls Try.prog 21 #[v] w R := by
  obtain ⟨i0, hi, hz0, hz1, hz2⟩ := info_parts info_int
  obtain ⟨A, n, rfl, hm, hcap, h⟩ := h.cases_
  have HR := Lib.hid hR
  have Hr := Lib.hid hr
  clear hR hr
  go_enter Try.func21, Try.ntmps21
  go_wp2
  go_loopg [4, 5] 11 (fun g u i wr => ∃ k : Nat, k ≤ 11 ∧ g = 11 - k ∧ i = .int .i64 k ∧ wr.ownsRow w.heap.size 3 1 u k (((List.range k).map fun (i : Nat) => (100 : Int) + (i : Int)).map (Value.int .i64)) ∧ Below w.heap.size w wr)
  case atStart => exact ⟨0, by omega, rfl, rfl, World.ownsRow_nil _ _ _ _, Below.refl _ _⟩
  case round =>
    obtain ⟨k, hk, rfl, rfl, hown, hbel⟩ := hrel
    have hwz := hbel.size
    by_cases hlt : k < 11
    · have hlt' : (k : Int) < 11 := by omega
      have hrg : Hid (((List.range (k + 1)).map fun (i : Nat) => (100 : Int) + (i : Int)).map (Value.int .i64) = ((List.range k).map fun (i : Nat) => (100 : Int) + (i : Int)).map (Value.int .i64) ++ [.int .i64 (100 + (k : Int))]) := by
        show _ = _
        rw [List.range_succ, List.map_append, List.map_append]
        rfl
      generalize ((List.range k).map fun (i : Nat) => (100 : Int) + (i : Int)).map (Value.int .i64) = F at *
      go_wp2_with (at_builtin; refine wpList_append_own _ rfl _ _ 22 rfl w.heap.size 3 i0 _ 1 8 Try.underlying22 hi hz0 hz1 hz2 rfl (by decide) _ k F rfl (hown.alloc _) ⟨wr.heap.size, 0, none⟩ 1 1 [.int .i64 (100 + (k : Int))] rfl rfl ?_ ?_ ?_ ?_ ?_ ?_)
      any_goals (first | exact World.news_of_block (cs := #[.int .i64 (100 + (k : Int))]) (t := 3) (fr := (0, 0)) (heap_alloc_new wr _) | (simp [Value.oneCell']; done) | (unfold maxLen; omega) | omega | (simp; done) | (simp; omega))
      · intro v' w1 hown1 hgrow _
        have hb1 : Below w.heap.size w w1 := (hbel.alloc hwz _).grown hgrow (by simp; omega) (fun k hk => (hown.lt k hk).1)
        have H1 := Lib.hid (And.intro hown1 hb1)
        clear hown1 hb1 hgrow hown hbel
        go_wp2
        go_roundg (11 - (k + 1))
        case measure => omega
        case rel =>
          refine ⟨k + 1, by omega, rfl, by go_num, ?_, H1.out.2⟩
          rw [hrg.out]
          exact H1.out.1
    · obtain rfl : k = 11 := by omega
      obtain ⟨g, c, rfl, hbg, hgl, hnc, hmx⟩ := own_some hown (by decide)
      have hown0 : wr.ownsRow w.heap.size 3 1 (.slice (some ⟨g, 0, none⟩) 11 c) 11 (tens.map (Value.int .i64)) := hown
      have H0 := Lib.hid (And.intro hown0 hbel)
      clear hown hown0 hbel
      go_wp2
      go_loopg [6] xs.length (fun q i wx => ∃ k : Nat, k ≤ xs.length ∧ q = xs.length - k ∧ i = .int .i64 k ∧ wx.ownsRow w.heap.size 3 1 (.slice (some ⟨g, 0, none⟩) 11 c) 11 (((xs.take k).foldl setPlace tens).map (Value.int .i64)) ∧ Below w.heap.size w wx)
      case atStart => exact ⟨0, Nat.zero_le _, rfl, rfl, H0.out.1, H0.out.2⟩
      case round =>
        rename World => wx
        obtain ⟨k, hk, rfl, rfl, hown, hbel⟩ := hrel
        have hwx := hbel.size
        have hgx : g < wx.heap.size := (hown.lt g rfl).2
        by_cases hlt : k < xs.length
        · obtain ⟨b, off, m, rfl, hb, e, p0, p1⟩ := h.move_at hlt
          obtain ⟨r1, r2, r3, r4⟩ := Hr.out m (List.mem_of_getElem? e)
          rw [← hbel.cell (p := ⟨_, _, none⟩) hb] at p0 p1
          have hbx : b < wx.heap.size := by omega
          have hfold := foldl_take setPlace tens e
          have hlen : ((xs.take k).foldl setPlace tens).length = 11 := by rw [placed_length]; rfl
          generalize (xs.take k).foldl setPlace tens = F at *
          obtain ⟨mt, ms⟩ := m
          simp only at r1 r2 r3 r4 p0 p1
          obtain ⟨tt, rfl⟩ := Int.eq_ofNat_of_zero_le r1
          obtain ⟨ss, rfl⟩ := Int.eq_ofNat_of_zero_le r3
          have q0 : wx.cell? ⟨g, ss, none⟩ = some (.int .i64 (F.getD ss 0)) := by
            rw [hown.cellAt ss (by omega), List.getElem?_map, List.getElem?_eq_getElem (by omega), List.getD_eq_getElem?_getD, List.getElem?_eq_getElem (by omega)]
            rfl
          obtain ⟨c1, z1⟩ := own_there hown tt (by omega)
          obtain ⟨u1, d1⟩ := Option.isSome_iff_exists.1 c1
          have hset : Hid (setPlace F ⟨(tt : Int), (ss : Int)⟩ = F.set tt (F.getD ss 0)) := rfl
          generalize F.getD ss 0 = val at *
          have hf' : wx.frozen? ⟨g, tt, none⟩ = false := z1
          have hbg' : b ≠ g := by omega
          have H1 := Lib.hid (And.intro hown hbel)
          have Hf := Lib.hid hfold
          have i1 : (0 : Int) ≤ (k : Int) := Int.natCast_nonneg _
          have i2 : (k : Int) < (xs.length : Int) := by omega
          have i3 : (tt : Int) < 11 := by omega
          have i4 : (ss : Int) < 11 := by omega
          clear hown hbel hfold c1 e hlen
          go_wp2_with fail
          go_region
          have H2 : Hid ((wx.setCell ⟨g, tt, none⟩ (.int .i64 val)).drew.ownsRow w.heap.size 3 1 (.slice (some ⟨g, 0, none⟩) 11 c) 11 ((F.set tt val).map (Value.int .i64)) ∧ Below w.heap.size w (wx.setCell ⟨g, tt, none⟩ (.int .i64 val)).drew) := by
            refine ⟨?_, (H1.out.2.setCell (p := ⟨g, tt, none⟩) hbg _).drew⟩
            have hFl : F.length = 11 := by have := H1.out.1.1; simpa using this
            have := own_setCells (vs := [.int .i64 val]) (o := tt) (m := 11) H1.out.1 (by simp; omega) (Nat.le_refl _) ((F.set tt val).map (Value.int .i64)) (by
              rw [show tt + [Value.int .i64 val].length = tt + 1 from rfl, map_set_cells F tt val (by omega), List.take_of_length_le (by simp [hFl])])
            exact this
          clear H1 d1 z1 hf' q0 p0 p1
          go_wp2
          go_roundg (xs.length - (k + 1))
          case measure => omega
          case rel =>
            refine ⟨k + 1, by omega, rfl, by go_num, ?_, H2.out.2⟩
            rw [Hf.out, hset.out]
            exact H2.out.1
        · obtain rfl : k = xs.length := by omega
          rw [List.take_length] at hown
          have H1 := Lib.hid (And.intro hown hbel)
          clear hown hbel
          go_wp2
          exact HR.out _ _ H1.out.2 H1.out.1
end Go.Proofs.Ytmlmnhhgdcfchaa
