/- The document's rules: where jumps lead; what stands next; what is live behind; what does nothing. -/
import Derived.Test.YtemakpjickbmnaaDoorBase
import Derived.Test.YtemakpjickbmnaaDoorRows
import Derived.IntWalk
import Derived.Outline
import Derived.Deep.LoopGhost
import Derived.Test.YtemakpjickbmnaaDoorPtP
import Derived.Test.YtemakpjickbmnaaDoorPrB
namespace Go.Proofs.YtemakpjickbmnaaDoor
open Go.RowKit
set_option linter.unusedSimpArgs false
set_option linter.unusedVariables false

set_option maxRecDepth 100000 in
set_option maxHeartbeats 2000000 in
theorem led_calls (v : Value) (l : List Mac) (hok : MacsOk l) (t : Int) (h0 : 0 ≤ t) (h1 : t < (l.length : Int)) (w : World) (h : rpMac.SL w w.heap.size l v) (R : Ending → World → Prop)
    (hR : R (.returned (.int .i64 (ledI l t))) w) :
    Calls Tryd.prog 107 #[v, .int .i64 t] w R := by
  have hfew := hok.few
  obtain ⟨A, c, rfl, hmx, hcap, hs⟩ := h.cases_
  have HR := Lib.hid hR
  have Hs := Lib.hid hs
  have Hok := Lib.hid hok
  clear hR hs h hok
  go_enter Tryd.func107, Tryd.ntmps107
  go_wp2
  go_loopg [1, 5] l.length (fun gh s1 s5 wr => ∃ (n y : Nat), n ≤ l.length ∧ gh = l.length - n ∧ y < l.length ∧ s1 = .int .i64 (y : Int) ∧ s5 = .int .i64 (n : Int) ∧ Hid (ledL l l.length t = ledL l (l.length - n) (y : Int)) ∧ wr = w)
  case atStart => exact ⟨0, t.toNat, Nat.zero_le _, rfl, by omega, by rw [Int.toNat_of_nonneg h0], rfl, Lib.hid (by rw [Int.toNat_of_nonneg h0]; rfl), rfl⟩
  case round =>
    obtain ⟨n, y, hn, rfl, hy, rfl, rfl, He, rfl⟩ := hrel
    by_cases hlt : n < l.length
    · have n0 : (0 : Int) ≤ (n : Int) := by omega
      have n1 : (n : Int) < (l.length : Int) := by omega
      have y0 : (0 : Int) ≤ (y : Int) := by omega
      have y1 : (y : Int) < (l.length : Int) := by omega
      obtain ⟨b6, o6, eA, hheld⟩ := mac_held Hs.out hy
      subst eA
      obtain ⟨lb, c0, c1, c2', c3, c4⟩ := hheld _ (Below.refl _ _)
      have hm := Hok.out.at_ hy
      obtain ⟨f, hf⟩ : ∃ f, l.length - n = f + 1 := ⟨l.length - n - 1, by omega⟩
      have e1 : (atL l y).op ≠ 37 → ledI l t = (y : Int) := fun e => by
        unfold ledI
        rw [He.out, hf, ledL_stop (by simpa using e)]
        rfl
      have e2 : (atL l y).op = 37 → ledL l l.length t = ledL l (l.length - (n + 1)) (atL l y).n := fun e => by
        rw [He.out, hf, ledL_step (by simpa using e), Int.toNat_natCast, show l.length - (n + 1) = f from by omega]
      clear hheld hf
      generalize atL l y = m at *
      by_cases h37 : m.op = 37
      · have j37 : (m.op != 37) = false := by simp [h37]
        have hj := hm.jump (by omega) (by omega)
        obtain ⟨z, hz⟩ : ∃ z : Nat, m.n = (z : Int) := ⟨m.n.toNat, by omega⟩
        have E2 := Lib.hid (e2 h37)
        rw [hz] at E2 c4
        have hzl : z < l.length := by omega
        clear e1 e2 h37 hz hj hm
        go_wp2
        go_roundg (l.length - (n + 1))
        case measure => omega
        case rel => exact ⟨n + 1, z, by omega, rfl, hzl, rfl, by go_num, E2, rfl⟩
      · have j37 : (m.op != 37) = true := by simp [h37]
        have E1 := Lib.hid (e1 h37)
        clear e1 e2 h37 hm
        have Hf := Lib.hid HR.out
        rw [E1.out] at Hf
        go_wp2
        exact Hf.out
    · obtain rfl : n = l.length := by omega
      have e : ledI l t = -1 := by
        unfold ledI
        rw [He.out, Nat.sub_self]
        rfl
      have Hf := Lib.hid HR.out
      rw [e] at Hf
      clear e
      go_wp2
      exact Hf.out
set_option maxRecDepth 100000 in
set_option maxHeartbeats 2000000 in
theorem nextTo_calls (v : Value) (l : List Mac) (hok : MacsOk l) (i : Nat) (hi : i < l.length) (w : World) (h : rpMac.SL w w.heap.size l v) (R : Ending → World → Prop)
    (hR : ∀ w', Below w.heap.size w w' → R (.returned (.bool (besB l i))) w') :
    Calls Tryd.prog 64 #[v, .int .i64 (i : Int)] w R := by
  have hfew := hok.few
  obtain ⟨A, c, rfl, hmx, hcap, hs⟩ := h.cases_
  have HR := Lib.hid hR
  have Hs := Lib.hid hs
  have i0 : (0 : Int) ≤ (i : Int) := by omega
  have i1 : (i : Int) < (l.length : Int) := by omega
  obtain ⟨b6, o6, eA, hheld⟩ := mac_held hs hi
  subst eA
  obtain ⟨lb, c0, c1, c2', c3, c4⟩ := hheld _ (Below.refl _ _)
  clear hR hs h hok hheld c1 c2' c3 c4
  by_cases hn : i + 1 < l.length
  · have i2 : ¬ (l.length : Int) ≤ (i : Int) + 1 := by omega
    have ebes : besB l i = (!markB l (i + 1) && !decide ((atL l i).op = 37) && !decide ((atL l i).op = 45)) := by unfold besB; rw [decide_eq_true hn, Bool.true_and]
    rw [ebes] at HR
    clear ebes
    generalize (atL l i).op = op at *
    by_cases h37 : op = 37
    · have j37 : (op == 37) = true := by simpa using h37
      rw [decide_eq_true h37, Bool.not_true, Bool.and_false, Bool.false_and] at HR
      clear h37
      go_enter Tryd.func64, Tryd.ntmps64
      go_wp2
      exact HR.out _ bl0
    · have j37 : (op == 37) = false := by simpa using h37
      rw [decide_eq_false h37, Bool.not_false, Bool.and_true] at HR
      clear h37
      by_cases h45 : op = 45
      · have j45 : (op == 45) = true := by simpa using h45
        rw [decide_eq_true h45, Bool.not_true, Bool.and_false] at HR
        clear h45
        go_enter Tryd.func64, Tryd.ntmps64
        go_wp2
        exact HR.out _ bl0
      · have j45 : (op == 45) = false := by simpa using h45
        rw [decide_eq_false h45, Bool.not_false, Bool.and_true] at HR
        clear h45
        go_enter Tryd.func64, Tryd.ntmps64
        go_wp2
        go_loopg [5] l.length (fun gh s5 wr => ∃ k : Nat, k ≤ l.length ∧ gh = l.length - k ∧ s5 = .int .i64 (k : Int) ∧ Hid ((l.take k).any (fun m => jumpsM m && decide (m.n = ((i + 1 : Nat) : Int))) = false) ∧ Hid (Below w.heap.size w wr))
        case atStart => exact ⟨0, Nat.zero_le _, rfl, rfl, Lib.hid rfl, Lib.hid (Below.refl _ _)⟩
        case round =>
          obtain ⟨k, hk, rfl, rfl, Ha, Hb⟩ := hrel
          have hz := Hb.out.size
          clear c0 lb
          by_cases hlt : k < l.length
          · have k0 : (0 : Int) ≤ (k : Int) := by omega
            have k1 : (k : Int) < (l.length : Int) := by omega
            obtain ⟨b7, o7, eA, hheld⟩ := mac_held Hs.out hlt
            injection eA with eA
            injection eA with e1 e2
            subst e1 e2
            have Hheld := Lib.hid hheld
            obtain ⟨lb, c0, c1, c2', c3, c4⟩ := hheld wr Hb.out
            have hst := anyM_take_snoc (p := fun m => jumpsM m && decide (m.n = ((i + 1 : Nat) : Int))) hlt
            have hin := atL_in hlt
            generalize atL l k = m at *
            have Hst := Lib.hid hst
            have Hin := Lib.hid hin
            clear hheld hst hin
            go_wp2_with fail
            refine jumping_calls m _ _ (fun w8 hb8 => ?_)
            have Hb8 := Lib.hid (Hb.out.trans (hb8.mono hz))
            clear hb8 c0 c1 c2' c3 c4 lb
            obtain ⟨lb, c0, c1, c2', c3, c4⟩ := Hheld.out w8 Hb8.out
            cases hj : jumpsM m
            · have H2 := Lib.hid (show (l.take (k + 1)).any (fun m => jumpsM m && decide (m.n = ((i + 1 : Nat) : Int))) = false by rw [Hst.out, Ha.out, hj]; rfl)
              clear hj
              go_wp2
              go_roundg (l.length - (k + 1))
              case measure => omega
              case rel => exact ⟨k + 1, by omega, rfl, by go_num, H2, Hb8⟩
            · by_cases hne : m.n = (i : Int) + 1
              · have jn : (m.n == (i : Int) + 1) = true := by simpa using hne
                have hmark : markB l (i + 1) = true := by
                  unfold markB
                  rw [List.any_eq_true]
                  exact ⟨m, Hin.out, by rw [hj, hne]; simp⟩
                rw [hmark, Bool.not_true] at HR
                have Hf := Lib.hid (HR.out w8 Hb8.out)
                clear hj hne hmark
                go_wp2
                exact Hf.out
              · have jn : (m.n == (i : Int) + 1) = false := by simpa using hne
                have H2 := Lib.hid (show (l.take (k + 1)).any (fun m => jumpsM m && decide (m.n = ((i + 1 : Nat) : Int))) = false by rw [Hst.out, Ha.out, hj]; simp; exact hne)
                clear hj hne
                go_wp2
                go_roundg (l.length - (k + 1))
                case measure => omega
                case rel => exact ⟨k + 1, by omega, rfl, by go_num, H2, Hb8⟩
          · obtain rfl : k = l.length := by omega
            have hmark : markB l (i + 1) = false := by
              have := Ha.out
              rw [List.take_length] at this
              exact this
            rw [hmark, Bool.not_false] at HR
            have Hf := Lib.hid (HR.out wr Hb.out)
            clear hmark
            go_wp2
            exact Hf.out
  · have i2 : (l.length : Int) ≤ (i : Int) + 1 := by omega
    have ebes : besB l i = false := by unfold besB; rw [decide_eq_false hn]; rfl
    rw [ebes] at HR
    clear ebes
    go_enter Tryd.func64, Tryd.ntmps64
    go_wp2
    exact HR.out _ bl0
set_option maxRecDepth 100000 in
set_option maxHeartbeats 2000000 in
theorem rbehind_calls (v : Value) (l : List Mac) (hok : MacsOk l) (i : Nat) (hi : i < l.length) (r : Nat) (hr : r < 16) (w : World) (h : rpMac.SL w w.heap.size l v) (R : Ending → World → Prop)
    (hR : ∀ w', Below w.heap.size w w' → R (.returned (.bool (behB l i r))) w') :
    Calls Tryd.prog 108 #[v, .int .i64 (i : Int), .int .i64 (r : Int)] w R := by
  have hfew := hok.few
  have hm := hok.at_ hi
  obtain ⟨A, c, rfl, hmx, hcap, hs⟩ := h.cases_
  rw [behB_at hok hi r] at hR
  have HR := Lib.hid hR
  have Hs := Lib.hid hs
  have Hok := Lib.hid hok
  have i0 : (0 : Int) ≤ (i : Int) := by omega
  have i1 : (i : Int) < (l.length : Int) := by omega
  obtain ⟨b6, o6, eA, hheld⟩ := mac_held hs hi
  subst eA
  have Hheld := Lib.hid hheld
  have hjn := fun hj : jumpsM (atL l i) = true => hm.jump (jumps_op.1 hj).1 (jumps_op.1 hj).2
  generalize atL l i = m at *
  clear hR hs h hheld hok hm
  go_enter Tryd.func108, Tryd.ntmps108
  go_wp2_with fail
  refine LiveOne_calls _ l Hok.out r hr _ Hs.out _ (fun w1 g1 hb1 hg1 hblk1 => ?_)
  have Hb1 := Lib.hid hb1
  have Hblk1 := Lib.hid hblk1
  have lG1 := blk_lt hblk1
  clear hb1 hg1 hblk1
  have HC : Hid (∀ W, Below w1.heap.size w1 W → ∀ k, k < l.length → W.cell? ⟨g1, k, none⟩ = some (.bool (liveB l k r))) := Lib.hid fun W hW k hk => by
    rw [blk_cell' ((hW.block _ (blk_lt Hblk1.out)).trans Hblk1.out), boolsA_get (by simp [liveC]; exact hk)]
    rw [show atB (liveC l r) k = liveB l k r from atB_map (f := fun i => liveB l i r) hk]
  obtain ⟨lb, c0, c1, c2', c3, c4⟩ := Hheld.out w1 Hb1.out
  by_cases hn : i + 1 < l.length
  · have i2 : (i : Int) + 1 < (l.length : Int) := by omega
    have i3 : (0 : Int) ≤ (i : Int) + 1 := by omega
    rw [decide_eq_true hn] at HR
    go_wp2_with fail
    rw [show ((i : Int) + 1) = ((i + 1 : Nat) : Int) from by omega]
    refine Goes_calls _ l Hok.out i (i + 1) hi (by omega) _ (Hs.out.up Hb1.out Hb1.out.size) _ (fun w2 hb2 => ?_)
    have Hb2 := Lib.hid hb2
    clear hb2 lb c0 c1 c2' c3 c4
    obtain ⟨lb, c0, c1, c2', c3, c4⟩ := Hheld.out w2 (Hb1.out.trans (Hb2.out.mono Hb1.out.size))
    have q1 := HC.out w2 Hb2.out (i + 1) hn
    have lg2 : g1 < w2.heap.size := Nat.lt_of_lt_of_le lG1 Hb2.out.size
    cases hg : goesB l i (i + 1)
    · rw [hg, Bool.and_false, Bool.false_or] at HR
      clear hg q1
      go_wp2_with fail
      refine jumping_calls m _ _ (fun w8 hb8 => ?_)
      have Hb8 := Lib.hid (Hb2.out.trans (hb8.mono Hb2.out.size))
      clear hb8 lb c0 c1 c2' c3 c4
      obtain ⟨lb, c0, c1, c2', c3, c4⟩ := Hheld.out w8 (Hb1.out.trans (Hb8.out.mono Hb1.out.size))
      cases hj : jumpsM m
      · rw [hj] at HR
        have Hf := Lib.hid (HR.out w8 (Hb1.out.trans (Hb8.out.mono Hb1.out.size)))
        clear hj
        go_wp2
        exact Hf.out
      · obtain ⟨y, hy⟩ : ∃ y : Nat, m.n = (y : Int) := ⟨m.n.toNat, by have := hjn hj; omega⟩
        have hyl : y < l.length := by have := hjn hj; omega
        rw [hy] at c4
        have y0 : (0 : Int) ≤ (y : Int) := by omega
        have y1 : (y : Int) < (l.length : Int) := by omega
        have q2 := HC.out w8 Hb8.out y hyl
        have lg8 : g1 < w8.heap.size := Nat.lt_of_lt_of_le lG1 Hb8.out.size
        rw [hj, hy, Int.toNat_natCast] at HR
        have Hf := Lib.hid (HR.out w8 (Hb1.out.trans (Hb8.out.mono Hb1.out.size)))
        clear hj hy hjn
        cases hv : liveB l y r
        · rw [hv] at Hf q2
          clear hv
          go_wp2
          exact Hf.out
        · rw [hv] at Hf q2
          clear hv
          go_wp2
          exact Hf.out
    · cases hv1 : liveB l (i + 1) r
      · rw [hv1, Bool.and_false, Bool.false_and, Bool.false_or] at HR
        rw [hv1] at q1
        clear hg hv1
        go_wp2_with fail
        refine jumping_calls m _ _ (fun w8 hb8 => ?_)
        have Hb8 := Lib.hid (Hb2.out.trans (hb8.mono Hb2.out.size))
        clear hb8 lb c0 c1 c2' c3 c4
        obtain ⟨lb, c0, c1, c2', c3, c4⟩ := Hheld.out w8 (Hb1.out.trans (Hb8.out.mono Hb1.out.size))
        cases hj : jumpsM m
        · rw [hj] at HR
          have Hf := Lib.hid (HR.out w8 (Hb1.out.trans (Hb8.out.mono Hb1.out.size)))
          clear hj
          go_wp2
          exact Hf.out
        · obtain ⟨y, hy⟩ : ∃ y : Nat, m.n = (y : Int) := ⟨m.n.toNat, by have := hjn hj; omega⟩
          have hyl : y < l.length := by have := hjn hj; omega
          rw [hy] at c4
          have y0 : (0 : Int) ≤ (y : Int) := by omega
          have y1 : (y : Int) < (l.length : Int) := by omega
          have q2 := HC.out w8 Hb8.out y hyl
          have lg8 : g1 < w8.heap.size := Nat.lt_of_lt_of_le lG1 Hb8.out.size
          rw [hj, hy, Int.toNat_natCast] at HR
          have Hf := Lib.hid (HR.out w8 (Hb1.out.trans (Hb8.out.mono Hb1.out.size)))
          clear hj hy hjn
          cases hv : liveB l y r
          · rw [hv] at Hf q2
            clear hv
            go_wp2
            exact Hf.out
          · rw [hv] at Hf q2
            clear hv
            go_wp2
            exact Hf.out
      · rw [hv1, hg, Bool.and_true, Bool.and_true, Bool.true_or] at HR
        rw [hv1] at q1
        have Hf := Lib.hid (HR.out w2 (Hb1.out.trans (Hb2.out.mono Hb1.out.size)))
        clear hg hv1
        go_wp2
        exact Hf.out
  · have i2 : ¬ (i : Int) + 1 < (l.length : Int) := by omega
    rw [decide_eq_false hn, Bool.false_and, Bool.false_and, Bool.false_or] at HR
    have Hb0 := Lib.hid (Below.refl w1.heap.size w1)
    go_wp2_with fail
    refine jumping_calls m _ _ (fun w8 hb8 => ?_)
    have Hb8 := Lib.hid (Hb0.out.trans (hb8.mono Hb0.out.size))
    clear hb8 lb c0 c1 c2' c3 c4
    obtain ⟨lb, c0, c1, c2', c3, c4⟩ := Hheld.out w8 (Hb1.out.trans (Hb8.out.mono Hb1.out.size))
    cases hj : jumpsM m
    · rw [hj] at HR
      have Hf := Lib.hid (HR.out w8 (Hb1.out.trans (Hb8.out.mono Hb1.out.size)))
      clear hj
      go_wp2
      exact Hf.out
    · obtain ⟨y, hy⟩ : ∃ y : Nat, m.n = (y : Int) := ⟨m.n.toNat, by have := hjn hj; omega⟩
      have hyl : y < l.length := by have := hjn hj; omega
      rw [hy] at c4
      have y0 : (0 : Int) ≤ (y : Int) := by omega
      have y1 : (y : Int) < (l.length : Int) := by omega
      have q2 := HC.out w8 Hb8.out y hyl
      have lg8 : g1 < w8.heap.size := Nat.lt_of_lt_of_le lG1 Hb8.out.size
      rw [hj, hy, Int.toNat_natCast] at HR
      have Hf := Lib.hid (HR.out w8 (Hb1.out.trans (Hb8.out.mono Hb1.out.size)))
      clear hj hy hjn
      cases hv : liveB l y r
      · rw [hv] at Hf q2
        clear hv
        go_wp2
        exact Hf.out
      · rw [hv] at Hf q2
        clear hv
        go_wp2
        exact Hf.out
end Go.Proofs.YtemakpjickbmnaaDoor
