/- Package peep: jumps to jumps; idle instructions. -/
import Derived.Test.YtkcmijnaheapdaaDoorBase
import Derived.Test.YtkcmijnaheapdaaDoorRows
import Derived.IntWalk
import Derived.Outline
import Derived.Deep.LoopGhost
import Derived.Deep.RegionLaw
import Derived.Test.YtkcmijnaheapdaaDoorPk9
namespace Go.Proofs.YtkcmijnaheapdaaDoor
open Go.RowKit
set_option linter.unusedSimpArgs false
set_option linter.unusedVariables false

theorem set_same_below {w : World} {base : Nat} {e : TypeId} {size n g j cap : Nat} {xs : List Value} {u : Value} (h : w.ownsRow base e size (.slice (some ⟨g, 0, none⟩) n cap) n xs) (hc : w.cell? ⟨g, j, none⟩ = some u) (B : Nat) : Below B w (w.setCell ⟨g, j, none⟩ u) := by
  refine ⟨rfl, rfl, rfl, by simp [World.setCell], fun k _ => ?_⟩
  by_cases hk : k = g
  · subst hk
    obtain ⟨cur, hh⟩ := row_type' h rfl
    rw [block_set hh, hh]
    rw [blk_cell' hh] at hc
    have : cur.setIfInBounds j u = cur := by
      apply Array.ext
      · simp
      · intro i h1 h2
        rw [Array.getElem_setIfInBounds]
        split
        · rename_i e
          subst e
          rw [Array.getElem?_eq_getElem h2] at hc
          exact (Option.some.inj hc).symm
        · rfl
    rw [this]
  · exact Below.heap_setCell _ _ _ _ hk
theorem Left.of_set {w w' : World} {l l' : List Mac} {p g cap base : Nat} {vl vr vm : Value} (h : WinO w l p g cap base vl vr vm) (hl : l'.length = l.length) (hb : w'.heap[p]? = w.heap[p]?) (ho : w'.ownsRow base 44 5 (.slice (some ⟨g, 0, none⟩) l.length cap) l.length (l'.flatMap Mac.cells)) : Left w' base p l' :=
  ⟨g, cap, vl, vr, vm, by rw [hl, hb]; exact h.win.hp, by rw [hl]; exact ho⟩
theorem WinO.ne {w : World} {l : List Mac} {p g cap base : Nat} {vl vr vm : Value} (h : WinO w l p g cap base vl vr vm) : p ≠ g := fun e => row_not' h.own h.win.hp (by decide) (by rw [e]; rfl)
theorem WinO.baseg {w : World} {l : List Mac} {p g cap base : Nat} {vl vr vm : Value} (h : WinO w l p g cap base vl vr vm) : base ≤ g := (h.own.lt g rfl).1
set_option maxHeartbeats 2000000 in
theorem far_calls {w : World} {l : List Mac} {p g cap base : Nat} {vl vr vm : Value} (h : WinO w l p g cap base vl vr vm) (i : Nat) (hi : i < l.length) (R : Ending → World → Prop)
    (hF : farR l i = none → ∀ w', Below w.heap.size w w' → R (.returned (.bool false)) w')
    (hT : ∀ l', farR l i = some l' → ∀ w', Below base w w' → Left w' base p l' → R (.returned (.bool true)) w') :
    Calls Tryd.prog 113 #[.pointer (some ⟨p, 0, none⟩), .int .i64 (i : Int)] w R := by
  have C := h.win.cells
  have c0 := C.c0
  have lp := C.lp
  have M := ownM_at h.own rfl hi
  have m0 := M.c0
  have m1 := M.c1
  have m2 := M.c2
  have m3 := M.c3
  have m4 := M.c4
  have lg := M.lg
  have i0 : (0 : Int) ≤ (i : Int) := by omega
  have i9 : (i : Int) < (l.length : Int) := by omega
  have hok := h.win.ok
  have hm := hok.at_ hi
  have hfew := hok.few
  have hbl := h.base_le
  have H := Lib.hid h
  unfold farR farTo at hF hT
  generalize hM : atL l i = m at *
  have HM := Lib.hid hM
  clear C M h hM
  go_enter Tryd.func113, Tryd.ntmps113
  go_wp2_with fail
  refine jumps_calls m _ _ (fun w5 hb5 => ?_)
  have d0 := (hb5.cell (p := ⟨p, 0, none⟩) lp).trans c0
  have d4 := (hb5.cell (p := ⟨g, i * 5 + 4, none⟩) lg).trans m4
  have lp5 := Nat.lt_of_lt_of_le lp hb5.size
  have lg5 := Nat.lt_of_lt_of_le lg hb5.size
  have H5 := Lib.hid (H.out.below hb5)
  have Hb5 := Lib.hid hb5
  clear hb5 m0 m1 m2 m3 m4 c0
  cases hj : jumpsM m
  · have HF := Lib.hid (hF (by rw [hj]; rfl))
    clear hT hF hj
    go_wp2
    exact HF.out _ Hb5.out
  · have hop := jumps_op.1 hj
    have hjn := hm.jump hop.1 hop.2
    rw [hj] at hF hT
    simp only [if_true] at hF hT
    have HF := Lib.hid hF
    have HT := Lib.hid hT
    clear hT hF hj hop hm
    go_wp2
    go_loopg [6, 28] l.length (fun gh s6 s28 wr => ∃ (k y : Nat), k ≤ l.length ∧ gh = l.length - k ∧ s28 = .int .i64 (k : Int) ∧ s6 = .int .i64 (y : Int) ∧ y < l.length ∧ Hid (ledL l (l.length - k) (y : Int) = ledL l l.length m.n) ∧ wr = w5)
    case atStart => exact ⟨0, m.n.toNat, Nat.zero_le _, rfl, rfl, by rw [Int.toNat_of_nonneg hjn.1], by omega, Lib.hid (by rw [Int.toNat_of_nonneg hjn.1]; rfl), rfl⟩
    case round =>
      obtain ⟨k, y, hk, rfl, rfl, rfl, hy, Hled, rfl⟩ := hrel
      by_cases hlt : k < l.length
      · have My := ownM_at H5.out.own rfl hy
        have y0 := My.c0
        have y4 := My.c4
        have hmy := hok.at_ hy
        have hled : ledL l (l.length - k) (y : Int) = if (atL l y).op ≠ 37 then some (y : Int) else ledL l (l.length - (k + 1)) (atL l y).n := by
          rw [show l.length - k = (l.length - (k + 1)) + 1 from by omega, ledL, Int.toNat_natCast]
        generalize atL l y = o at *
        have k0 : (0 : Int) ≤ (k : Int) := by omega
        have k1 : (k : Int) < (l.length : Int) := by omega
        have z0 : (0 : Int) ≤ (y : Int) := by omega
        have z1 : (y : Int) < (l.length : Int) := by omega
        by_cases h37 : o.op = 37
        · have j37 : (o.op != 37) = false := by simpa using h37
          have hon := hmy.jump (by omega) (by omega)
          rw [if_neg (fun e => e h37)] at hled
          have Hl2 := Lib.hid (hled.symm.trans Hled.out)
          obtain ⟨z, hz⟩ : ∃ z : Nat, o.n = (z : Int) := ⟨o.n.toNat, by omega⟩
          rw [hz] at y4 Hl2 hon
          clear hz h37 hled My hmy
          go_wp2
          go_roundg (l.length - (k + 1))
          case measure => omega
          case rel => exact ⟨k + 1, z, by omega, rfl, by go_num, rfl, by omega, Hl2, rfl⟩
        · have j37 : (o.op != 37) = true := by simpa using h37
          rw [if_pos h37] at hled
          have Hl2 := Lib.hid (Hled.out.symm.trans hled)
          have fz := My.fz (i * 5 + 4)
          clear hled Hled h37 hmy
          by_cases hn : (y : Int) = m.n
          · have jn : ((y : Int) != m.n) = false := by simpa using hn
            have H1 := HF.out (by rw [Hl2.out]; simp only; rw [if_pos hn]; rfl)
            have hbs := set_same_below (u := .int .i64 (y : Int)) H5.out.own (by rw [hn]; exact d4) wr.heap.size
            have Hf := Lib.hid (H1 _ (Hb5.out.trans (hbs.mono Hb5.out.size)))
            clear H1 hbs hn My
            go_wp2
            exact Hf.out
          · have jn : ((y : Int) != m.n) = true := by simpa using hn
            have hset := ownM_put H5.out.own rfl hi (y : Int)
            rw [HM.out] at hset
            have Hf := Lib.hid (HT.out (l.set i (withN m (y : Int))) (by rw [Hl2.out]; simp only; rw [if_neg hn]; rfl) (wr.setCell ⟨g, i * 5 + 4, none⟩ (.int .i64 (y : Int))) ((Hb5.out.mono hbl).setCell (p := ⟨g, i * 5 + 4, none⟩) H.out.baseg _) (Left.of_set H5.out List.length_set (Below.heap_setCell _ _ _ _ H.out.ne) hset))
            clear hset hn My
            go_wp2
            exact Hf.out
      · obtain rfl : k = l.length := by omega
        have Hf := Lib.hid (HF.out (by rw [← Hled.out, Nat.sub_self, ledL]; rfl) wr Hb5.out)
        go_wp2
        exact Hf.out
end Go.Proofs.YtkcmijnaheapdaaDoor
