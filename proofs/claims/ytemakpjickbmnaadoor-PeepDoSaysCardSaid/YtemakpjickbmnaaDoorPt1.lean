/- The document's rules: an instruction taken out; an instruction that is another one. -/
import Derived.Test.YtemakpjickbmnaaDoorBase
import Derived.Test.YtemakpjickbmnaaDoorRows
import Derived.IntWalk
import Derived.Outline
import Derived.Deep.LoopGhost
import Derived.Test.YtemakpjickbmnaaDoorPsA
import Derived.Test.YtemakpjickbmnaaDoorPrB
namespace Go.Proofs.YtemakpjickbmnaaDoor
open Go.RowKit
set_option linter.unusedSimpArgs false
set_option linter.unusedVariables false

/-- What is made ahead of instruction k, where instruction i is taken out. -/
def goneTo (l : List Mac) (i k : Nat) : List Mac := ((l.take k).eraseIdx i).map (decM i)
theorem goneTo_first (l : List Mac) (i : Nat) : goneTo l i 0 = [] := by simp [goneTo]
theorem goneTo_end (l : List Mac) (i : Nat) : goneTo l i l.length = goneL l i := by simp [goneTo, goneL]
theorem take_atL {l : List Mac} {k : Nat} (h : k < l.length) : l.take (k + 1) = l.take k ++ [atL l k] := by
  rw [take_snoc' h, atL_get h]
theorem goneTo_hit {l : List Mac} {k : Nat} (h : k < l.length) : goneTo l k (k + 1) = goneTo l k k := by
  unfold goneTo
  congr 1
  have hk : (l.take k).length = k := by rw [List.length_take]; omega
  rw [take_atL h, List.eraseIdx_append_of_length_le (by omega), hk, Nat.sub_self, List.eraseIdx_of_length_le (l := l.take k) (by omega)]
  simp
theorem goneTo_step {l : List Mac} {i k : Nat} (h : k < l.length) (hne : k ≠ i) : goneTo l i (k + 1) = goneTo l i k ++ [decM i (atL l k)] := by
  unfold goneTo
  have hk : (l.take k).length = k := by rw [List.length_take]; omega
  rw [take_atL h]
  rcases Nat.lt_or_ge i k with h1 | h1
  · rw [List.eraseIdx_append_of_lt_length (by omega), List.map_append]
    rfl
  · rw [List.eraseIdx_of_length_le (by simp; omega), List.eraseIdx_of_length_le (by omega), List.map_append]
    rfl
theorem goneTo_len {l : List Mac} {i k : Nat} : (goneTo l i k).length ≤ k := by
  unfold goneTo
  rw [List.length_map]
  refine Nat.le_trans (List.length_eraseIdx_le _ _) ?_
  rw [List.length_take]; omega

set_option maxRecDepth 100000 in
set_option maxHeartbeats 2000000 in
theorem gone_calls (v : Value) (l : List Mac) (i : Nat) (hi : i < l.length) (hfew : l.length ≤ 5000) (hn : ∀ m ∈ l, jumpsM m = true → 0 ≤ m.n ∧ m.n ≤ 5000) (w : World) (h : rpMac.SL w w.heap.size l v) (R : Ending → World → Prop)
    (hR : ∀ w' v', Below w.heap.size w w' → rpMac.SL w' w'.heap.size (goneL l i) v' → R (.returned v') w') :
    Calls Tryd.prog 106 #[v, .int .i64 (i : Int)] w R := by
  obtain ⟨A, c, rfl, hmx, hcap, hs⟩ := h.cases_
  have HR := Lib.hid hR
  have Hs := Lib.hid hs
  have Hn := Lib.hid hn
  clear hR hs h hn
  go_enter Tryd.func106, Tryd.ntmps106
  go_wp2
  go_loopg [5, 6] l.length (fun gh s2 s3 wr => ∃ (k N : Nat), k ≤ l.length ∧ gh = l.length - k ∧ s3 = .int .i64 (k : Int) ∧ N ≤ k ∧ Hid ((goneTo l i k).length = N) ∧ Hid (wr.ownsRow w.heap.size 36 5 s2 N ((goneTo l i k).flatMap Mac.cells)) ∧ Hid (Below w.heap.size w wr))
  case atStart => exact ⟨0, 0, Nat.zero_le _, rfl, rfl, Nat.le_refl _, Lib.hid rfl, Lib.hid (World.ownsRow_nil _ _ _ _), Lib.hid (Below.refl _ _)⟩
  case round =>
    obtain ⟨k, N, hk, rfl, rfl, hNk, HN, Ho, Hb⟩ := hrel
    have hz := Hb.out.size
    obtain ⟨A2, c2, rfl⟩ := own_slice Ho.out
    by_cases hlt : k < l.length
    · obtain ⟨b6, o6, eA, hheld⟩ := mac_held Hs.out hlt
      subst eA
      obtain ⟨lb, c0, c1, c2', c3, c4⟩ := hheld wr Hb.out
      have k0 : (0 : Int) ≤ (k : Int) := by omega
      have k1 : (k : Int) < (l.length : Int) := by omega
      have hjn := Hn.out _ (atL_in hlt)
      have Hhit : Hid (k = i → goneTo l i (k + 1) = goneTo l i k) := Lib.hid fun e => by subst e; exact goneTo_hit hlt
      have Hstep : Hid (k ≠ i → goneTo l i (k + 1) = goneTo l i k ++ [decM i (atL l k)]) := Lib.hid fun e => goneTo_step hlt e
      clear hheld
      generalize atL l k = m at *
      have hv : (¬ (37 : Int) ≤ m.op ∧ decM i m = m) ∨ ((37 : Int) ≤ m.op ∧ ¬ m.op ≤ 43 ∧ decM i m = m) ∨ ((37 : Int) ≤ m.op ∧ m.op ≤ 43 ∧ ¬ (i : Int) < m.n ∧ decM i m = m) ∨ ((37 : Int) ≤ m.op ∧ m.op ≤ 43 ∧ (i : Int) < m.n ∧ m.n ≤ 5000 ∧ decM i m = ⟨m.op, m.dst, m.a, m.b, m.n - 1⟩) := by
        unfold decM
        by_cases hj : jumpsM m = true
        · have h37 := jumps_op.1 hj
          have := hjn hj
          by_cases hin : (i : Int) < m.n
          · exact .inr (.inr (.inr ⟨h37.1, h37.2, hin, this.2, by rw [if_pos ⟨hj, hin⟩]⟩))
          · exact .inr (.inr (.inl ⟨h37.1, h37.2, hin, by rw [if_neg (fun h => hin h.2)]⟩))
        · have hno : ¬ (37 ≤ m.op ∧ m.op ≤ 43) := fun e => hj (jumps_op.2 e)
          by_cases h37 : (37 : Int) ≤ m.op
          · exact .inr (.inl ⟨h37, by omega, by rw [if_neg (fun h => hj h.1)]⟩)
          · exact .inl ⟨h37, by rw [if_neg (fun h => hj h.1)]⟩
      obtain ⟨y, hy⟩ : ∃ y, decM i m = y := ⟨_, rfl⟩
      rw [hy] at hv Hstep
      clear hy hjn
      have HoM := Lib.hid ((Ho.out.alloc (Obj.cells #[.int .i64 m.op, .int .i64 m.dst, .int .i64 m.a, .int .i64 m.b, .int .i64 m.n] 36)))
      have hbM : Below w.heap.size w (wr.alloc (Obj.cells #[.int .i64 m.op, .int .i64 m.dst, .int .i64 m.a, .int .i64 m.b, .int .i64 m.n] 36)) := by have hb := Hb.out; exact bl0
      have HbM := Lib.hid hbM
      have HoD := Lib.hid (Ho.out.alloc (Obj.cells #[.int .i64 m.op, .int .i64 m.dst, .int .i64 m.a, .int .i64 m.b, .int .i64 (m.n - 1)] 36))
      have HbD := Lib.hid (show Below w.heap.size w (wr.alloc (Obj.cells #[.int .i64 m.op, .int .i64 m.dst, .int .i64 m.a, .int .i64 m.b, .int .i64 (m.n - 1)] 36)) by have hb := Hb.out; exact bl0)
      clear hbM
      by_cases hki : k = i
      · have hkI : (k : Int) = (i : Int) := by omega
        have jki : ((k : Int) != (i : Int)) = false := by simp [hki]
        have Hh := Lib.hid (Hhit.out hki)
        clear hki hkI Hhit Hstep
        rcases hv with ⟨a1, e⟩ | ⟨a1, a2, e⟩ | ⟨a1, a2, a3, e⟩ | ⟨a1, a2, a3, a4, e⟩
        · clear e
          go_wp2
          go_roundg (l.length - (k + 1))
          case measure => omega
          case rel => exact ⟨k + 1, N, by omega, rfl, by go_num, by omega, Lib.hid (by rw [Hh.out]; exact HN.out), Lib.hid (by rw [Hh.out]; exact HoM.out), HbM⟩
        · clear e
          go_wp2
          go_roundg (l.length - (k + 1))
          case measure => omega
          case rel => exact ⟨k + 1, N, by omega, rfl, by go_num, by omega, Lib.hid (by rw [Hh.out]; exact HN.out), Lib.hid (by rw [Hh.out]; exact HoM.out), HbM⟩
        · clear e
          go_wp2
          go_roundg (l.length - (k + 1))
          case measure => omega
          case rel => exact ⟨k + 1, N, by omega, rfl, by go_num, by omega, Lib.hid (by rw [Hh.out]; exact HN.out), Lib.hid (by rw [Hh.out]; exact HoM.out), HbM⟩
        · clear e
          go_wp2
          go_roundg (l.length - (k + 1))
          case measure => omega
          case rel => exact ⟨k + 1, N, by omega, rfl, by go_num, by omega, Lib.hid (by rw [Hh.out]; exact HN.out), Lib.hid (by rw [Hh.out]; exact HoD.out), HbD⟩
      · have jki : ((k : Int) != (i : Int)) = true := by simp; omega
        have Hst := Lib.hid (Hstep.out hki)
        have HoW := Lib.hid (HoM.out.alloc (Obj.cells #[.int .i64 m.op, .int .i64 m.dst, .int .i64 m.a, .int .i64 m.b, .int .i64 m.n] 36))
        have HbW := Lib.hid (show Below w.heap.size w ((wr.alloc (Obj.cells #[.int .i64 m.op, .int .i64 m.dst, .int .i64 m.a, .int .i64 m.b, .int .i64 m.n] 36)).alloc (Obj.cells #[.int .i64 m.op, .int .i64 m.dst, .int .i64 m.a, .int .i64 m.b, .int .i64 m.n] 36)) by have hb := Hb.out; exact bl0)
        have HG : Hid (((wr.alloc (Obj.cells #[.int .i64 m.op, .int .i64 m.dst, .int .i64 m.a, .int .i64 m.b, .int .i64 m.n] 36)).alloc (Obj.cells #[.int .i64 m.op, .int .i64 m.dst, .int .i64 m.a, .int .i64 m.b, .int .i64 m.n] 36)).heap[wr.heap.size + 1]? = some (.cells #[.int .i64 m.op, .int .i64 m.dst, .int .i64 m.a, .int .i64 m.b, .int .i64 m.n] 36 (0, 0))) := Lib.hid (by simpa using heap_alloc_new (wr.alloc (Obj.cells #[.int .i64 m.op, .int .i64 m.dst, .int .i64 m.a, .int .i64 m.b, .int .i64 m.n] 36)) (Obj.cells #[.int .i64 m.op, .int .i64 m.dst, .int .i64 m.a, .int .i64 m.b, .int .i64 m.n] 36))
        have HoV := Lib.hid (HoD.out.alloc (Obj.cells #[.int .i64 m.op, .int .i64 m.dst, .int .i64 m.a, .int .i64 m.b, .int .i64 (m.n - 1)] 36))
        have HbV := Lib.hid (HbD.out.alloc (by simp; omega) (Obj.cells #[.int .i64 m.op, .int .i64 m.dst, .int .i64 m.a, .int .i64 m.b, .int .i64 (m.n - 1)] 36))
        have HGV : Hid (((wr.alloc (Obj.cells #[.int .i64 m.op, .int .i64 m.dst, .int .i64 m.a, .int .i64 m.b, .int .i64 (m.n - 1)] 36)).alloc (Obj.cells #[.int .i64 m.op, .int .i64 m.dst, .int .i64 m.a, .int .i64 m.b, .int .i64 (m.n - 1)] 36)).heap[wr.heap.size + 1]? = some (.cells #[.int .i64 m.op, .int .i64 m.dst, .int .i64 m.a, .int .i64 m.b, .int .i64 (m.n - 1)] 36 (0, 0))) := Lib.hid (by simpa using heap_alloc_new (wr.alloc (Obj.cells #[.int .i64 m.op, .int .i64 m.dst, .int .i64 m.a, .int .i64 m.b, .int .i64 (m.n - 1)] 36)) (Obj.cells #[.int .i64 m.op, .int .i64 m.dst, .int .i64 m.a, .int .i64 m.b, .int .i64 (m.n - 1)] 36))
        clear hki Hhit Hstep
        rcases hv with ⟨a1, e⟩ | ⟨a1, a2, e⟩ | ⟨a1, a2, a3, e⟩ | ⟨a1, a2, a3, a4, e⟩
        · subst e
          go_wp2_with (at_builtin; refine app_one_mac rfl _ _ rfl rfl HN.out HoW.out (wr.heap.size + 1) y rfl HG.out (by omega) (by simp; omega) ?_)
          intro v' w2 hown1 hgrow
          obtain ⟨A3, c3, rfl⟩ := own_slice hown1
          have Hown1 := Lib.hid hown1
          have Hb2 := Lib.hid (HbW.out.grown hgrow (by simp; omega) (fun k hk => (Ho.out.lt k hk).1))
          clear hown1 hgrow
          go_wp2
          go_roundg (l.length - (k + 1))
          case measure => omega
          case rel => exact ⟨k + 1, N + 1, by omega, rfl, by go_num, by omega, Lib.hid (by rw [Hst.out, List.length_append, HN.out]; rfl), Lib.hid (by rw [Hst.out]; simpa using Hown1.out), Hb2⟩
        · subst e
          go_wp2_with (at_builtin; refine app_one_mac rfl _ _ rfl rfl HN.out HoW.out (wr.heap.size + 1) y rfl HG.out (by omega) (by simp; omega) ?_)
          intro v' w2 hown1 hgrow
          obtain ⟨A3, c3, rfl⟩ := own_slice hown1
          have Hown1 := Lib.hid hown1
          have Hb2 := Lib.hid (HbW.out.grown hgrow (by simp; omega) (fun k hk => (Ho.out.lt k hk).1))
          clear hown1 hgrow
          go_wp2
          go_roundg (l.length - (k + 1))
          case measure => omega
          case rel => exact ⟨k + 1, N + 1, by omega, rfl, by go_num, by omega, Lib.hid (by rw [Hst.out, List.length_append, HN.out]; rfl), Lib.hid (by rw [Hst.out]; simpa using Hown1.out), Hb2⟩
        · subst e
          go_wp2_with (at_builtin; refine app_one_mac rfl _ _ rfl rfl HN.out HoW.out (wr.heap.size + 1) y rfl HG.out (by omega) (by simp; omega) ?_)
          intro v' w2 hown1 hgrow
          obtain ⟨A3, c3, rfl⟩ := own_slice hown1
          have Hown1 := Lib.hid hown1
          have Hb2 := Lib.hid (HbW.out.grown hgrow (by simp; omega) (fun k hk => (Ho.out.lt k hk).1))
          clear hown1 hgrow
          go_wp2
          go_roundg (l.length - (k + 1))
          case measure => omega
          case rel => exact ⟨k + 1, N + 1, by omega, rfl, by go_num, by omega, Lib.hid (by rw [Hst.out, List.length_append, HN.out]; rfl), Lib.hid (by rw [Hst.out]; simpa using Hown1.out), Hb2⟩
        · subst e
          go_wp2_with (at_builtin; refine app_one_mac rfl _ _ rfl rfl HN.out HoV.out (wr.heap.size + 1) ⟨m.op, m.dst, m.a, m.b, m.n - 1⟩ rfl HGV.out (by omega) (by simp; omega) ?_)
          intro v' w2 hown1 hgrow
          obtain ⟨A3, c3, rfl⟩ := own_slice hown1
          have Hown1 := Lib.hid hown1
          have Hb2 := Lib.hid (HbV.out.grown hgrow (by simp; omega) (fun k hk => (Ho.out.lt k hk).1))
          clear hown1 hgrow
          go_wp2
          go_roundg (l.length - (k + 1))
          case measure => omega
          case rel => exact ⟨k + 1, N + 1, by omega, rfl, by go_num, by omega, Lib.hid (by rw [Hst.out, List.length_append, HN.out]; rfl), Lib.hid (by rw [Hst.out]; simpa using Hown1.out), Hb2⟩
    · obtain rfl : k = l.length := by omega
      have e := goneTo_end l i
      have Hfin := Lib.hid (HR.out wr _ Hb.out (by rw [← e]; exact SLMac_own (by rw [HN.out]; exact Ho.out) (Nat.le_refl _)))
      clear e
      go_wp2
      exact Hfin.out
set_option maxRecDepth 100000 in
set_option maxHeartbeats 2000000 in
theorem turned_calls (v : Value) (l : List Mac) (i : Nat) (hi : i < l.length) (hfew : l.length ≤ 5000) (m : Mac) (w : World) (h : rpMac.SL w w.heap.size l v) (R : Ending → World → Prop)
    (hR : ∀ w' v', Below w.heap.size w w' → rpMac.SL w' w'.heap.size (l.set i m) v' → R (.returned v') w') :
    Calls Tryd.prog 67 #[v, .int .i64 (i : Int), .agg #[.int .i64 m.op, .int .i64 m.dst, .int .i64 m.a, .int .i64 m.b, .int .i64 m.n]] w R := by
  obtain ⟨A, c, rfl, hmx, hcap, hs⟩ := h.cases_
  have HR := Lib.hid hR
  have Hs := Lib.hid hs
  obtain ⟨b6, o6, eA, hheld⟩ := mac_held Hs.out hi
  subst eA
  have hnews : ∀ j u, (l.flatMap Mac.cells)[j]? = some u → w.cell? ((⟨b6, o6, none⟩ : Addr).add j) = some u := Rp.SL.news (f := Mac.cells) (fun _ _ _ _ e => rpMac_rep.1 e) (fun _ => rfl) (by decide) Hs.out
  have hlb := (hheld w (Below.refl _ _)).1
  have Hnews : Hid (∀ j u, (l.flatMap Mac.cells)[j]? = some u → (w.alloc (Obj.cells #[.int .i64 m.op, .int .i64 m.dst, .int .i64 m.a, .int .i64 m.b, .int .i64 m.n] 36)).cell? ((⟨b6, o6, none⟩ : Addr).add j) = some u) := Lib.hid fun j u hj => by
    have := hnews j u hj
    rw [Addr.add_lit] at this ⊢
    rw [World.cell?_alloc_lt _ _ _ hlb]
    exact this
  clear hR hs h hnews hheld
  have i0 : (0 : Int) ≤ (i : Int) := by omega
  have i1 : (i : Int) < (l.length : Int) := by omega
  obtain ⟨N, hN⟩ : ∃ N, l.length = N := ⟨_, rfl⟩
  rw [hN] at hfew i1 hmx hcap hi ⊢
  have HN := Lib.hid hN
  clear hN
  go_enter Tryd.func67, Tryd.ntmps67
  go_wp2_with (at_builtin; refine app_nil_mac rfl _ _ rfl rfl ⟨b6, o6, none⟩ N c l rfl HN.out hfew Hnews.out ?_)
  intro v' w2 hown1 hgrow
  have hb2 : Below w.heap.size w w2 := (show Below w.heap.size w (w.alloc (Obj.cells #[.int .i64 m.op, .int .i64 m.dst, .int .i64 m.a, .int .i64 m.b, .int .i64 m.n] 36)) by exact bl0).trans ((Below.grown (Below.refl _ _) hgrow (Nat.le_refl _) (fun k hk => by cases hk)).mono (by simp))
  have hcb := (hgrow.block w.heap.size (by simp) (by simp)).trans (heap_alloc_new w (Obj.cells #[.int .i64 m.op, .int .i64 m.dst, .int .i64 m.a, .int .i64 m.b, .int .i64 m.n] 36))
  obtain ⟨g2, c2, rfl, hg2a, hg2b, hc2a, hc2b⟩ := own_some hown1 (by omega)
  have M := ownM_at hown1 HN.out hi
  have m0 := M.c0
  have m1 := M.c1
  have m2 := M.c2
  have m3 := M.c3
  have m4 := M.c4
  have f0 := M.fz (i * 5)
  have f1 := M.fz (i * 5 + 1)
  have f2 := M.fz (i * 5 + 2)
  have f3 := M.fz (i * 5 + 3)
  have f4 := M.fz (i * 5 + 4)
  have lg := M.lg
  have p0 : w2.cell? ⟨w.heap.size, 0, none⟩ = some (.int .i64 m.op) := by simp [World.cell?, hcb]
  have p1 : w2.cell? ⟨w.heap.size, 1, none⟩ = some (.int .i64 m.dst) := by simp [World.cell?, hcb]
  have p2 : w2.cell? ⟨w.heap.size, 2, none⟩ = some (.int .i64 m.a) := by simp [World.cell?, hcb]
  have p3 : w2.cell? ⟨w.heap.size, 3, none⟩ = some (.int .i64 m.b) := by simp [World.cell?, hcb]
  have p4 : w2.cell? ⟨w.heap.size, 4, none⟩ = some (.int .i64 m.n) := by simp [World.cell?, hcb]
  have lp := blk_lt hcb
  have h5 := ownM_set hown1 HN.out hi m
  have hb5 := (((((hb2.setCell (p := ⟨g2, i * 5, none⟩) (show w.heap.size ≤ g2 by first | omega | (simp at hg2a; omega)) (.int .i64 m.op)).setCell (p := ⟨g2, i * 5 + 1, none⟩) (show w.heap.size ≤ g2 by first | omega | (simp at hg2a; omega)) (.int .i64 m.dst)).setCell (p := ⟨g2, i * 5 + 2, none⟩) (show w.heap.size ≤ g2 by first | omega | (simp at hg2a; omega)) (.int .i64 m.a)).setCell (p := ⟨g2, i * 5 + 3, none⟩) (show w.heap.size ≤ g2 by first | omega | (simp at hg2a; omega)) (.int .i64 m.b)).setCell (p := ⟨g2, i * 5 + 4, none⟩) (show w.heap.size ≤ g2 by first | omega | (simp at hg2a; omega)) (.int .i64 m.n))
  have Hfin := Lib.hid (HR.out _ _ hb5 (SLMac_own (xs := l.set i m) (by rw [List.length_set, HN.out]; exact h5) (Nat.le_refl _)))
  clear hgrow hown1 hcb h5 hb5 hb2 hg2a M
  go_wp2
  exact Hfin.out
end Go.Proofs.YtemakpjickbmnaaDoor
