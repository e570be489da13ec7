/- The document's answer: an instruction that stands at a place. The document's answer: instructions out of bytes. -/
import Derived.Test.YtfhnmbnniklmiaaDoorBase
import Derived.Test.YtfhnmbnniklmiaaDoorRows
import Derived.IntWalk
import Derived.Deep.LoopGhost
import Derived.Deep.CutBlock
import Derived.Deep.DeepCutAuto
import Derived.Test.YtfhnmbnniklmiaaDoorRefA
import Derived.Test.YtfhnmbnniklmiaaDoorReadC
import Derived.Test.YtfhnmbnniklmiaaDoorPlainA
/- The document's answer: an instruction that stands at a place. -/
namespace Go.Proofs.YtfhnmbnniklmiaaDoor
open Go.RowKit
set_option linter.unusedSimpArgs false
set_option linter.unusedVariables false

def isReg (c : UInt8) : Bool := c == 100 || c == 97 || c == 98
def cnt (l : List UInt8) : Nat := (l.filter isReg).length
theorem cnt_many (op : Int) (h : known op = true) : cnt (fieldsOf op).data.toList = (shapeOf op).many := by
  have hb : 1 ≤ op ∧ op ≤ 47 := by simpa [known] using h
  obtain ⟨k, rfl⟩ : ∃ k : Nat, op = (k : Int) := ⟨op.toNat, by omega⟩
  have e1 : fieldsOf (k : Int) = fieldsTab.getD k ⟨#[63]⟩ := by rw [fieldsOf, if_pos hb]; rfl
  have e2 : shapeOf (k : Int) = shapeTab.getD k ⟨false, false, false, 0⟩ := by rw [shapeOf, if_pos hb]; rfl
  rw [e1, e2]
  have key : ∀ k : Nat, k < 48 → 1 ≤ k → cnt (fieldsTab.getD k ⟨#[63]⟩).data.toList = (shapeTab.getD k ⟨false, false, false, 0⟩).many := by decide
  exact key k (by omega) (by omega)
theorem cnt_step {s : ByteArray} {k : Nat} (h : k < s.size) : cnt (s.data.toList.take (k + 1)) = cnt (s.data.toList.take k) + if isReg s[k] then 1 else 0 := by
  rw [List.take_succ_eq_append_getElem (by simpa using h), cnt, List.filter_append, List.length_append]
  congr 1
  show (List.filter isReg [s[k]]).length = _
  cases hr : isReg s[k] <;> simp [List.filter_cons, hr]
theorem cnt_le (s : ByteArray) (k : Nat) : cnt (s.data.toList.take k) ≤ k := by
  have h1 := List.length_filter_le isReg (s.data.toList.take k)
  have h2 : (s.data.toList.take k).length ≤ k := List.length_take_le _ _
  unfold cnt
  omega
theorem many_le (s : Shape) : s.many ≤ 3 := by
  obtain ⟨d, a, b, n⟩ := s
  cases d <;> cases a <;> cases b <;> simp [Shape.many]

theorem own_int_at {w : World} {base e k : Nat} {A : Option Addr} {c : Nat} {vals : List Int} (h : w.ownsRow base e 1 (.slice A vals.length c) vals.length (vals.map (Value.int .i64))) (hk : k < vals.length) : ∃ g, A = some ⟨g, 0, none⟩ ∧ vals.length ≤ c ∧ base ≤ g ∧ g < w.heap.size ∧ w.cell? ⟨g, k, none⟩ = some (.int .i64 (vals.getD k 0)) := by
  obtain ⟨h1, h2⟩ := h
  rcases h2 with ⟨_, hn⟩ | ⟨g, cap, cur, hv, hB, hh, hnc, hcm, hcs, htk⟩
  · omega
  · injection hv with hA _ hc
    subst hA hc
    refine ⟨g, rfl, hnc, hB, ?_, ?_⟩
    · rcases Nat.lt_or_ge g w.heap.size with hlt | hge
      · exact hlt
      · rw [Array.getElem?_eq_none hge] at hh
        cases hh
    · have hg : (vals.map (Value.int .i64))[k]? = some (.int .i64 (vals.getD k 0)) := by
        rw [List.getElem?_map, List.getD_eq_getElem?_getD, List.getElem?_eq_getElem hk]
        rfl
      rw [← htk, List.getElem?_take] at hg
      split at hg
      · rw [Array.getElem?_toList] at hg
        simpa [World.cell?, hh] using hg
      · cases hg
/-- How the memory stands while the registers are laid. -/
def MidReg (w wc : World) (vals : List Int) (v : Value) (m : Mac) (wx : World) : Prop :=
  wx.heap[w.heap.size + 1]? = some (.cells m.arr 90 (0, 0)) ∧ wx.heap[w.heap.size]? = some (.cells (⟨0, 0, 0, 0, 0⟩ : Mac).arr 90 (0, 0)) ∧ wx.ownsRow (w.heap.size + 2) 3 1 v vals.length (vals.map (Value.int .i64)) ∧ Below w.heap.size w wx ∧ w.heap.size + 2 ≤ wx.heap.size
theorem MidReg.put {w wc : World} {vals : List Int} {v : Value} {m : Mac} {wx : World} (h : MidReg w wc vals v m wx) (x : Nat) (u : Int) (m' : Mac) (hx : m.arr.setIfInBounds x (.int .i64 u) = m'.arr) : MidReg w wc vals v m' (wx.setCell ⟨w.heap.size + 1, x, none⟩ (.int .i64 u)) := by
  obtain ⟨h1, h2, h3, h4, h5⟩ := h
  refine ⟨by rw [block_set h1, hx], ?_, ownsRow_setCell_below h3 (a := ⟨w.heap.size + 1, x, none⟩) (by show w.heap.size + 1 < w.heap.size + 2; omega) _, h4.setCell (p := ⟨w.heap.size + 1, x, none⟩) (by show w.heap.size ≤ w.heap.size + 1; omega) _, by simpa [World.setCell] using h5⟩
  exact ((grown_setCell wx ⟨w.heap.size + 1, x, none⟩ (.int .i64 u)).block _ (by omega) (by simp)).trans h2
theorem set_other {w : World} {b c j : Nat} {X : Obj} (h : w.heap[b]? = some X) (hne : b ≠ c) (u : Value) : (w.setCell ⟨c, j, none⟩ u).heap[b]? = some X :=
  ((grown_setCell w ⟨c, j, none⟩ u).block b (by
    rcases Nat.lt_or_ge b w.heap.size with hlt | hge
    · exact hlt
    · rw [Array.getElem?_eq_none hge] at h
      cases h) (by simpa using hne)).trans h
theorem info_int : (Tryd.prog.info? 3).map (fun i => (i.zero, i.size, i.bytes)) = some (some (.int .i64 0), 1, 8) := by kernel_rfl
theorem res_Mac_int {fn : Func} {p t : Tmp} (h : fn.results = #[.cell p 90, .tmp t]) {tmps : Array Value} {b : Nat} {w : World} {m : Mac} {T : TypeId} {v : Value} (hp : tmps.getD p undef = .pointer (some ⟨b, 0, none⟩)) (ht : tmps.getD t undef = v)
    (hc : w.heap[b]? = some (.cells m.arr T (0, 0))) : (results fn tmps).run Tryd.prog w = .ok (.tuple #[.agg m.arr, v]) w := by
  rw [Array.getD_eq_getD_getElem?] at hp ht
  obtain ⟨a0, a1, a2, a3, a4, _⟩ := cells_of_arr hc
  simp [results, h, hp, ht, go_sem, a0, a1, a2, a3, a4, Mac.arr]

set_option maxRecDepth 100000 in
set_option maxHeartbeats 4000000 in
theorem ReadMac_calls (v : Value) (bs : List UInt8) (k : Nat) (w : World) (h : rpByte.SL w w.heap.size bs v) (hk : k < bs.length) (hlen : bs.length ≤ 100000) (R : Ending → World → Prop)
    (hsome : ∀ m r, macL (bs.drop k) = some (m, r) → ∀ w', Below w.heap.size w w' → R (.returned (.tuple #[.agg m.arr, .int .i64 (placeOf bs r)])) w')
    (hnone : macL (bs.drop k) = none → ∀ w' (m : Mac), Below w.heap.size w w' → R (.returned (.tuple #[.agg m.arr, .int .i64 (-1)])) w') :
    Calls Tryd.prog 66 #[v, .int .i64 (k : Int)] w R := by
  have Hsome := Lib.hid hsome
  have Hnone := Lib.hid hnone
  clear hsome hnone
  obtain ⟨A, n, rfl, hm, hcap, h⟩ := h.cases_
  obtain ⟨g, off, rfl, hg, q0⟩ := h.byte_at hk
  have Hs := Lib.hid h
  have hk0 : (0 : Int) ≤ (k : Int) := Int.natCast_nonneg _
  have hk1 : (k : Int) ≤ 100000 := by omega
  have hki : (k : Int) < (bs.length : Int) := by omega
  have hx := (bs[k]).toNat_lt
  have hT := macGo_eq bs[k] (bs.drop (k + 1))
  rw [← drop_cons hk] at hT
  have HT := Lib.hid hT
  generalize (bs[k]).toNat = x at *
  have hx0 : (0 : Int) ≤ (x : Int) := Int.natCast_nonneg _
  have hx1 : (x : Int) < 256 := by omega
  clear h hT
  go_enter Tryd.func66, Tryd.ntmps66
  go_wp2_with fail
  have hm0 : ((w.alloc (Obj.cells #[.int .i64 0, .int .i64 0, .int .i64 0, .int .i64 0, .int .i64 0] 90)).alloc (Obj.cells #[.int .i64 (x : Int), .int .i64 0, .int .i64 0, .int .i64 0, .int .i64 0] 90)).heap[w.heap.size + 1]? = some (.cells (⟨(x : Int), 0, 0, 0, 0⟩ : Mac).arr 90 (0, 0)) := by
    have := heap_alloc_new (w.alloc (Obj.cells #[.int .i64 0, .int .i64 0, .int .i64 0, .int .i64 0, .int .i64 0] 90)) (Obj.cells #[.int .i64 (x : Int), .int .i64 0, .int .i64 0, .int .i64 0, .int .i64 0] 90)
    simpa [Mac.arr] using this
  have he0 : ((w.alloc (Obj.cells #[.int .i64 0, .int .i64 0, .int .i64 0, .int .i64 0, .int .i64 0] 90)).alloc (Obj.cells #[.int .i64 (x : Int), .int .i64 0, .int .i64 0, .int .i64 0, .int .i64 0] 90)).heap[w.heap.size]? = some (.cells (⟨0, 0, 0, 0, 0⟩ : Mac).arr 90 (0, 0)) :=
    (heap_alloc_old _ _ (by simp)).trans (heap_alloc_new w _)
  have hb0 : Below w.heap.size w ((w.alloc (Obj.cells #[.int .i64 0, .int .i64 0, .int .i64 0, .int .i64 0, .int .i64 0] 90)).alloc (Obj.cells #[.int .i64 (x : Int), .int .i64 0, .int .i64 0, .int .i64 0, .int .i64 0] 90)) := bl0
  refine Fields_calls _ _ _ (fun w1 hb1 => ?_)
  have hz1 : w.heap.size + 2 ≤ w1.heap.size := by have := hb1.size; simpa using this
  have hm1 := (hb1.block (w.heap.size + 1) (by simp)).trans hm0
  have he1 := (hb1.block w.heap.size (by simp; omega)).trans he0
  have hbw := hb0.trans (hb1.mono (by simp; omega))
  have Hm1 := Lib.hid hm1
  have He1 := Lib.hid he1
  have Hbw := Lib.hid hbw
  obtain ⟨a0, a1, a2, a3, a4, az⟩ := cells_of_arr hm1
  obtain ⟨e0, e1, e2, e3, e4, ez⟩ := cells_of_arr he1
  simp only [] at a0 a1 a2 a3 a4 e0 e1 e2 e3 e4
  clear hm0 he0 hb0 hb1 hm1 he1 hbw
  cases hkn : known (x : Int)
  · have ef : fieldsOf (x : Int) = ⟨#[63]⟩ := by
      rw [fieldsOf, if_neg]
      simpa [known] using hkn
    have hno := Lib.hid (Hnone.out (by rw [← HT.out, macGo, if_pos hkn]))
    rw [ef]
    clear ef hkn
    go_wp2
    have hfin := Lib.hid (five (a := w1) He1.out (.int .i64 (x : Int)) (.int .i64 0) (.int .i64 0) (.int .i64 0) (.int .i64 0))
    refine bodyPost_ret (v := .tuple #[.agg (⟨(x : Int), 0, 0, 0, 0⟩ : Mac).arr, .int .i64 (-1)]) (res_Mac_int (T := 90) (by rfl) (by rfl) (by rfl) hfin.out) rfl ?_
    refine hno.out _ _ (Hbw.out.trans ?_)
    exact below_five _ _ _ _ _
  · obtain ⟨f1, f2, f3, f4, f5, f6, f7, f8, f9, f10⟩ := fields_has _ hkn
    have hcm := cnt_many _ hkn
    have hgo : Hid (macL (bs.drop k) = (regsL (shapeOf (x : Int)).many (bs.drop (k + 1))).bind fun r => if (shapeOf (x : Int)).n = 0 then some (placeRegs (shapeOf (x : Int)) x r.1 0, r.2) else (numberL r.2).map fun y => (placeRegs (shapeOf (x : Int)) x r.1 (unfoldN y.1), y.2)) := Lib.hid (by
      rw [← HT.out, macGo, if_neg (by simp [hkn]), regsGo_eq]
      cases regsL (shapeOf (x : Int)).many (bs.drop (k + 1)) <;> rfl)
    generalize hf : fieldsOf (x : Int) = f at *
    generalize hs : shapeOf (x : Int) = s at *
    have Hf := Lib.hid hf
    have Hss := Lib.hid hs
    clear hf hs hkn
    have hf3 : (f.size : Int) ≤ 3 := by omega
    have Hcm := Lib.hid hcm
    have G1 : Hid (hasN f 100 = s.d) := Lib.hid f3
    have G2 : Hid (hasN f 97 = s.a) := Lib.hid f4
    have G3 : Hid (hasN f 98 = s.b) := Lib.hid f5
    have G4 : Hid (hasN f 110 = (s.n == 1)) := Lib.hid f6
    have G5 : Hid (hasN f 116 = (s.n == 2)) := Lib.hid f7
    have G6 : Hid (hasN f 119 = (s.n == 3)) := Lib.hid f8
    have G7 : Hid (hasN f 114 = (s.n == 4)) := Lib.hid f9
    have G8 := Lib.hid f10
    have Hsz : Hid (f.size ≤ 100) := Lib.hid (by omega)
    clear hcm f3 f4 f5 f6 f7 f8 f9 f10
    go_upto_block 0 with fail
    go_cut [8] (fun s8 wx => s8 = .int .i64 (s.many : Int) ∧ wx = w1)
    case first =>
      go_wp2_with fail
      go_loopg [8, 9] f.size (fun g8 m8 i8 wr => ∃ i : Nat, i ≤ f.size ∧ g8 = f.size - i ∧ i8 = .int .i64 (i : Int) ∧ m8 = .int .i64 (cnt (f.data.toList.take i) : Int) ∧ wr = w1)
      case atStart => exact ⟨0, Nat.zero_le _, rfl, rfl, rfl, rfl⟩
      case round =>
        obtain ⟨i, hi, rfl, rfl, rfl, rfl⟩ := hrel
        have hci := cnt_le f i
        by_cases hlt : i < f.size
        · have i1 : (0 : Int) ≤ (i : Int) := Int.natCast_nonneg _
          have i2 : (i : Int) < (f.size : Int) := by omega
          have Hst := Lib.hid (cnt_step hlt)
          generalize cnt (f.data.toList.take i) = c at *
          have i3 : (0 : Int) ≤ (c : Int) := Int.natCast_nonneg _
          have i4 : (c : Int) ≤ 3 := by omega
          cases hr : isReg f[i]
          · have hst : Hid (cnt (f.data.toList.take (i + 1)) = c) := Lib.hid (by rw [Hst.out, hr]; rfl)
            have hr' : (f[i] == 100) = false ∧ (f[i] == 97) = false ∧ (f[i] == 98) = false := by simpa [isReg, Bool.or_eq_false_iff, and_assoc] using hr
            have b1 : (((f[i].toNat : Nat) : Int) == 100) = false := (byte_eq f[i] 100).trans hr'.1
            have b2 : (((f[i].toNat : Nat) : Int) == 97) = false := (byte_eq f[i] 97).trans hr'.2.1
            have b3 : (((f[i].toNat : Nat) : Int) == 98) = false := (byte_eq f[i] 98).trans hr'.2.2
            clear hr hr' Hst
            go_wp2
            go_roundg (f.size - (i + 1))
            case measure => omega
            case rel => exact ⟨i + 1, hlt, rfl, by go_num, by rw [hst.out], rfl⟩
          · have hst : Hid (cnt (f.data.toList.take (i + 1)) = c + 1) := Lib.hid (by rw [Hst.out, hr]; rfl)
            have hr' : (f[i] == 100) = true ∨ (f[i] == 97) = true ∨ (f[i] == 98) = true := by simpa [isReg, Bool.or_eq_true, or_assoc] using hr
            clear hr Hst
            by_cases b1 : (f[i] == 100) = true
            · have b1 : (((f[i].toNat : Nat) : Int) == 100) = true := (byte_eq f[i] 100).trans b1
              clear hr'
              go_wp2
              go_roundg (f.size - (i + 1))
              case measure => omega
              case rel => exact ⟨i + 1, hlt, rfl, by go_num, by rw [hst.out]; go_num, rfl⟩
            · have n1 : (((f[i].toNat : Nat) : Int) == 100) = false := (byte_eq f[i] 100).trans (by simpa using b1)
              by_cases b2 : (f[i] == 97) = true
              · have b2 : (((f[i].toNat : Nat) : Int) == 97) = true := (byte_eq f[i] 97).trans b2
                clear hr' b1
                go_wp2
                go_roundg (f.size - (i + 1))
                case measure => omega
                case rel => exact ⟨i + 1, hlt, rfl, by go_num, by rw [hst.out]; go_num, rfl⟩
              · have n2 : (((f[i].toNat : Nat) : Int) == 97) = false := (byte_eq f[i] 97).trans (by simpa using b2)
                have b3 : (((f[i].toNat : Nat) : Int) == 98) = true := (byte_eq f[i] 98).trans ((hr'.resolve_left b1).resolve_left b2)
                clear hr' b1 b2
                go_wp2
                go_roundg (f.size - (i + 1))
                case measure => omega
                case rel => exact ⟨i + 1, hlt, rfl, by go_num, by rw [hst.out]; go_num, rfl⟩
        · obtain rfl : i = f.size := by omega
          have hc : Hid (cnt (f.data.toList.take f.size) = s.many) := Lib.hid (by rw [← Hcm.out, List.take_of_length_le (by simp)])
          go_wp2
          go_meet
          exact ⟨by rw [hc.out], rfl⟩
    case rest =>
      obtain ⟨rfl, rfl⟩ := hcut
      have hmany := many_le s
      obtain ⟨i0, hi, iz0, iz1, iz2⟩ := info_parts info_int
      go_upto_block 2 with fail
      go_cut [1, 10] (fun s1 s10 wx => ∃ (vals : List Int) (j : Nat), s1 = .int .i64 (j : Int) ∧ j ≤ bs.length ∧ wx.ownsRow (w.heap.size + 2) 3 1 s10 vals.length (vals.map (Value.int .i64)) ∧ regsL s.many (bs.drop (k + 1)) = some (vals, bs.drop j) ∧ Below (w.heap.size + 2) wc wx)
      case first =>
        go_wp2_with fail
        go_loopg [1, 10, 11] s.many (fun g1 s1 s10 s11 wx => ∃ (vals : List Int) (j : Nat), g1 = s.many - vals.length ∧ vals.length ≤ s.many ∧ s1 = .int .i64 (j : Int) ∧ j ≤ bs.length ∧ wx.ownsRow (w.heap.size + 2) 3 1 s10 vals.length (vals.map (Value.int .i64)) ∧ (regsL (s.many - vals.length) (bs.drop j)).map (fun q => (vals ++ q.1, q.2)) = regsL s.many (bs.drop (k + 1)) ∧ Below (w.heap.size + 2) wc wx)
        case atStart => exact ⟨[], k + 1, rfl, Nat.zero_le _, by go_num, by omega, World.ownsRow_nil _ _ _ _, by simp, Below.refl _ _⟩
        case round =>
          obtain ⟨vals, j, rfl, hvl, rfl, hj, hown, hq, hbel⟩ := hrel
          have j0 : (0 : Int) ≤ (j : Int) := Int.natCast_nonneg _
          have j1 : (j : Int) ≤ 100000 := by omega
          have Hq := Lib.hid hq
          have Hbel := Lib.hid hbel
          have Hown := Lib.hid hown
          have hz := hbel.size
          obtain ⟨A5, c5, rfl⟩ := own_slice hown
          have hmr := (hbel.block (w.heap.size + 1) (by omega)).trans Hm1.out
          have her := (hbel.block w.heap.size (by omega)).trans He1.out
          have Her := Lib.hid her
          have Hbr : Hid (Below w.heap.size w wr) := Lib.hid (Hbw.out.trans (hbel.mono (by omega)))
          clear a0 a1 a2 a3 a4 az e0 e1 e2 e3 e4 ez
          obtain ⟨a0, a1, a2, a3, a4, az⟩ := cells_of_arr hmr
          obtain ⟨e0, e1, e2, e3, e4, ez⟩ := cells_of_arr her
          simp only [] at a0 a1 a2 a3 a4 e0 e1 e2 e3 e4
          clear hq hbel hmr her
          by_cases hrem : s.many = vals.length
          · have hfin : regsL s.many (bs.drop (k + 1)) = some (vals, bs.drop j) := by
              rw [← Hq.out, hrem, Nat.sub_self, regsL]
              simp
            have Hfin := Lib.hid hfin
            have hnl : ¬ ((vals.length : Int) < (s.many : Int)) := by omega
            have Hrem := Lib.hid hrem
            clear hfin hrem hvl
            go_wp2
            go_meet
            exact ⟨vals, j, rfl, hj, Hown.out, Hfin.out, Hbel.out⟩
          · have hl : (vals.length : Int) < (s.many : Int) := by omega
            by_cases hend : j = bs.length
            · have hno : macL (bs.drop k) = none := by
                rw [hgo.out, ← Hq.out, hend, List.drop_length]
                obtain ⟨c, hc⟩ : ∃ c, s.many - vals.length = c + 1 := ⟨s.many - vals.length - 1, by omega⟩
                rw [hc]
                cases c <;> simp [regsL]
              have hno := Lib.hid (Hnone.out hno)
              have hbl : (bs.length : Int) ≤ (j : Int) := by omega
              clear hend hrem
              go_wp2
              have hfin := Lib.hid (five (a := wr) Her.out (.int .i64 (x : Int)) (.int .i64 0) (.int .i64 0) (.int .i64 0) (.int .i64 0))
              refine bodyPost_ret (v := .tuple #[.agg (⟨(x : Int), 0, 0, 0, 0⟩ : Mac).arr, .int .i64 (-1)]) (res_Mac_int (T := 90) (by rfl) (by rfl) (by rfl) hfin.out) rfl ?_
              refine hno.out _ _ (Hbr.out.trans ?_)
              exact below_five _ _ _ _ _
            · have hjlt : j < bs.length := by omega
              have hbl : ¬ (bs.length : Int) ≤ (j : Int) := by omega
              have hjl : (j : Int) < (bs.length : Int) := by omega
              obtain ⟨gg, oo, hgo2, hg2, q1⟩ := (Hs.out.up Hbr.out Hbr.out.size).byte_at hjlt
              simp only [Option.some.injEq, Addr.mk.injEq, and_true] at hgo2
              obtain ⟨rfl, rfl⟩ := hgo2
              have hd := drop_cons hjlt
              rw [hd] at Hq
              have hy := (bs[j]).toNat_lt
              clear hd
              by_cases h1 : s.many - vals.length = 1
              · rw [h1, regsL] at Hq
                have h1i : ¬ (1 : Int) < (s.many : Int) - (vals.length : Int) := by omega
                generalize (bs[j]).toNat = y at *
                have y0 : (0 : Int) ≤ (y : Int) := Int.natCast_nonneg _
                have y1 : (y : Int) < 256 := by omega
                by_cases h15 : 15 < y
                · have hno : macL (bs.drop k) = none := by
                    rw [hgo.out, ← Hq.out, if_pos h15]
                    rfl
                  have hno := Lib.hid (Hnone.out hno)
                  have h15i : (15 : Int) < (y : Int) := by omega
                  clear h15 h1 hend hrem
                  go_wp2
                  have hfin := Lib.hid (five (a := wr) Her.out (.int .i64 (x : Int)) (.int .i64 0) (.int .i64 0) (.int .i64 0) (.int .i64 0))
                  refine bodyPost_ret (v := .tuple #[.agg (⟨(x : Int), 0, 0, 0, 0⟩ : Mac).arr, .int .i64 (-1)]) (res_Mac_int (T := 90) (by rfl) (by rfl) (by rfl) hfin.out) rfl ?_
                  refine hno.out _ _ (Hbr.out.trans ?_)
                  exact below_five _ _ _ _ _
                · rw [if_neg h15] at Hq
                  have h15i : ¬ (15 : Int) < (y : Int) := by omega
                  have hq2 : Hid ((regsL (s.many - (vals ++ [(y : Int)]).length) (bs.drop (j + 1))).map (fun q => ((vals ++ [(y : Int)]) ++ q.1, q.2)) = regsL s.many (bs.drop (k + 1))) := Lib.hid (by
                    rw [← Hq.out, List.length_append, List.length_singleton, show s.many - (vals.length + 1) = 0 from by omega, regsL]
                    simp)
                  have hvl2 : vals.length + 1 ≤ s.many := by omega
                  clear h15 h1 hend hrem Hq
                  go_wp2_with (at_builtin; refine wpList_append_own _ rfl _ _ 52 rfl (w.heap.size + 2) 3 i0 _ 1 8 Tryd.underlying52 hi iz0 iz1 iz2 rfl (by decide) (.slice A5 vals.length c5) vals.length (vals.map (Value.int .i64)) rfl (Hown.out.alloc _) ⟨wr.heap.size, 0, none⟩ 1 1 [.int .i64 (y : Int)] rfl rfl ?_ ?_ ?_ ?_ ?_ ?_)
                  any_goals first | exact World.news_of_block (cs := #[.int .i64 (y : Int)]) (t := 3) (fr := (0, 0)) (heap_alloc_new wr _) | (simp [Value.oneCell']; done) | (unfold maxLen; omega) | omega | (simp; done) | (simp; omega)
                  · intro v' w2 hown2 hgrow _
                    have hb2 : Below (w.heap.size + 2) wc w2 := (Hbel.out.alloc (by omega) (Obj.cells #[.int .i64 (y : Int)] 3)).grown hgrow (by simp; omega) (fun k hk => (Hown.out.lt k hk).1)
                    have H1 := Lib.hid (And.intro hown2 hb2)
                    clear hown2 hb2 hgrow hown
                    go_wp2
                    go_roundg (s.many - (vals.length + 1))
                    case measure => omega
                    case rel => exact ⟨vals ++ [(y : Int)], j + 1, by simp, by simpa using hvl2, by go_num, hjlt, by simpa using H1.out.1, hq2.out, H1.out.2⟩
              · have h1i : (1 : Int) < (s.many : Int) - (vals.length : Int) := by omega
                obtain ⟨r2, hr2⟩ : ∃ r2, s.many - vals.length = r2 + 2 := ⟨s.many - vals.length - 2, by omega⟩
                rw [hr2, regsL] at Hq
                generalize (bs[j]).toNat = y at *
                have y0 : (0 : Int) ≤ (y : Int) := Int.natCast_nonneg _
                have y1 : (y : Int) < 256 := by omega
                have hq2 : Hid ((regsL (s.many - (vals ++ [(y : Int) / 16, (y : Int) % 16]).length) (bs.drop (j + 1))).map (fun q => ((vals ++ [(y : Int) / 16, (y : Int) % 16]) ++ q.1, q.2)) = regsL s.many (bs.drop (k + 1))) := Lib.hid (by
                  rw [← Hq.out, List.length_append, show s.many - (vals.length + [(y : Int) / 16, (y : Int) % 16].length) = r2 from by simp; omega, Option.map_map]
                  congr 1
                  funext q
                  simp)
                have hvl2 : vals.length + 2 ≤ s.many := by omega
                clear h1 hend hrem Hq
                go_wp2_with (at_builtin; refine wpList_append_own _ rfl _ _ 52 rfl (w.heap.size + 2) 3 i0 _ 1 8 Tryd.underlying52 hi iz0 iz1 iz2 rfl (by decide) (.slice A5 vals.length c5) vals.length (vals.map (Value.int .i64)) rfl (Hown.out.alloc _) ⟨wr.heap.size, 0, none⟩ 2 2 [.int .i64 ((y : Int) / 16), .int .i64 ((y : Int) % 16)] rfl rfl ?_ ?_ ?_ ?_ ?_ ?_)
                any_goals first | exact World.news_of_block (cs := #[.int .i64 ((y : Int) / 16), .int .i64 ((y : Int) % 16)]) (t := 3) (fr := (0, 0)) (heap_alloc_new wr _) | (simp [Value.oneCell']; done) | (unfold maxLen; omega) | omega | (simp; done) | (simp; omega)
                · intro v' w2 hown2 hgrow _
                  have hb2 : Below (w.heap.size + 2) wc w2 := (Hbel.out.alloc (by omega) (Obj.cells #[.int .i64 ((y : Int) / 16), .int .i64 ((y : Int) % 16)] 3)).grown hgrow (by simp; omega) (fun k hk => (Hown.out.lt k hk).1)
                  have H1 := Lib.hid (And.intro hown2 hb2)
                  clear hown2 hb2 hgrow hown
                  go_wp2
                  go_roundg (s.many - (vals.length + 2))
                  case measure => omega
                  case rel => exact ⟨vals ++ [(y : Int) / 16, (y : Int) % 16], j + 1, by simp, by simpa using hvl2, by go_num, hjlt, by simpa using H1.out.1, hq2.out, H1.out.2⟩
      case rest =>
        rename World => w3
        obtain ⟨vals, j, rfl, hj, hown, hq, hbel⟩ := hcut
        have hvl := Lib.hid (regsL_short _ _ _ _ hq).2
        have hmr := (hbel.block (w.heap.size + 1) (by omega)).trans Hm1.out
        have her := (hbel.block w.heap.size (by omega)).trans He1.out
        obtain ⟨A5, c5, rfl⟩ := own_slice hown
        have Hmid : Hid (MidReg w wc vals (.slice A5 vals.length c5) ⟨(x : Int), 0, 0, 0, 0⟩ w3) := Lib.hid ⟨hmr, her, hown, Hbw.out.trans (hbel.mono (by omega)), by have := hbel.size; omega⟩
        have Hq := Lib.hid hq
        have j0 : (0 : Int) ≤ (j : Int) := Int.natCast_nonneg _
        have j1 : (j : Int) ≤ 100000 := by omega
        clear a0 a1 a2 a3 a4 az e0 e1 e2 e3 e4 ez hown hq hbel hmr her
        go_upto_if 89 with (go_at_call 100; refine Has_any f _ (by omega) (by omega) Hsz.out _ _ ?_)
        rw [G1.out]
        go_cut [12] (fun s12 wx => s12 = .int .i64 (s.d.toNat : Int) ∧ MidReg w wc vals (.slice A5 vals.length c5) ⟨(x : Int), if s.d then vals.getD 0 0 else 0, 0, 0, 0⟩ wx)
        case first =>
          have hmid := Hmid.out
          obtain ⟨a0, a1, a2, a3, a4, az⟩ := cells_of_arr hmid.1
          simp only [] at a0 a1 a2 a3 a4
          have hz5 := hmid.2.2.2.2
          cases hd : s.d
          · go_wp2
            go_meet
            exact ⟨by rw [hd]; rfl, by rw [hd]; exact Hmid.out⟩
          · obtain ⟨g', rfl, hc5, hg1, hg2, r0⟩ := own_int_at (k := 0) hmid.2.2.1 (by rw [hvl.out, Shape.many, hd]; simp; omega)
            have i0 : (0 : Int) < (vals.length : Int) := by rw [hvl.out, Shape.many, hd]; simp; omega
            have hput := Lib.hid (hmid.put (wc := wc) 1 (vals.getD 0 0) ⟨(x : Int), vals.getD 0 0, 0, 0, 0⟩ rfl)
            clear hmid
            go_wp2
            go_meet
            exact ⟨by rw [hd]; rfl, by rw [hd]; exact hput.out⟩
        case rest =>
          rename World => w4
          obtain ⟨rfl, hmid⟩ := hcut
          have Hmid2 := Lib.hid hmid
          clear hmid Hmid
          go_upto_if 98 with (go_at_call 100; refine Has_any f _ (by omega) (by omega) Hsz.out _ _ ?_)
          rw [G2.out]
          go_cut [12] (fun s12 wx => ∃ da : Nat, s12 = .int .i64 (da : Int) ∧ da = s.d.toNat + s.a.toNat ∧ MidReg w wc vals (.slice A5 vals.length c5) ⟨(x : Int), if s.d then vals.getD 0 0 else 0, if s.a then vals.getD s.d.toNat 0 else 0, 0, 0⟩ wx)
          case first =>
            have hmid := Hmid2.out
            obtain ⟨a0, a1, a2, a3, a4, az⟩ := cells_of_arr hmid.1
            simp only [] at a0 a1 a2 a3 a4
            have hz5 := hmid.2.2.2.2
            have d1 : (s.d.toNat : Int) ≤ 1 := by cases s.d <;> simp
            have d0 : (0 : Int) ≤ (s.d.toNat : Int) := Int.natCast_nonneg _
            cases ha : s.a
            · go_wp2
              go_meet
              exact ⟨s.d.toNat, rfl, by rw [ha]; rfl, by rw [ha]; exact Hmid2.out⟩
            · have hlt : s.d.toNat < vals.length := by rw [hvl.out, Shape.many, ha]; simp; omega
              obtain ⟨g', rfl, hc5, hg1, hg2, r0⟩ := own_int_at (k := s.d.toNat) hmid.2.2.1 hlt
              have i0 : (s.d.toNat : Int) < (vals.length : Int) := by omega
              have hput := Lib.hid (hmid.put (wc := wc) 2 (vals.getD s.d.toNat 0) ⟨(x : Int), if s.d then vals.getD 0 0 else 0, vals.getD s.d.toNat 0, 0, 0⟩ rfl)
              clear hmid hlt
              go_wp2
              go_meet
              exact ⟨s.d.toNat + 1, by go_num, by rw [ha]; rfl, by rw [ha]; exact hput.out⟩
          case rest =>
            rename World => w5
            obtain ⟨da, rfl, hda, hmid⟩ := hcut
            have Hda := Lib.hid hda
            have Hmid3 := Lib.hid hmid
            clear hmid Hmid2 hda
            go_upto_if 107 with (go_at_call 100; refine Has_any f _ (by omega) (by omega) Hsz.out _ _ ?_)
            rw [G3.out]
            go_cut [] (fun wx => MidReg w wc vals (.slice A5 vals.length c5) (placeRegs s x vals 0) wx)
            case first =>
              have hmid := Hmid3.out
              obtain ⟨a0, a1, a2, a3, a4, az⟩ := cells_of_arr hmid.1
              simp only [] at a0 a1 a2 a3 a4
              have hz5 := hmid.2.2.2.2
              cases hb : s.b
              · go_wp2
                go_meet
                rw [placeRegs, hb]
                exact Hmid3.out
              · have hlt : da < vals.length := by rw [hvl.out, Shape.many, hb, Hda.out]; simp
                obtain ⟨g', rfl, hc5, hg1, hg2, r0⟩ := own_int_at (k := da) hmid.2.2.1 hlt
                have i0 : (da : Int) < (vals.length : Int) := by omega
                have hput := Lib.hid (hmid.put (wc := wc) 3 (vals.getD da 0) ⟨(x : Int), if s.d then vals.getD 0 0 else 0, if s.a then vals.getD s.d.toNat 0 else 0, vals.getD da 0, 0⟩ rfl)
                have hpl : Hid (placeRegs s x vals 0 = ⟨(x : Int), if s.d then vals.getD 0 0 else 0, if s.a then vals.getD s.d.toNat 0 else 0, vals.getD da 0, 0⟩) := Lib.hid (by rw [placeRegs, hb, Hda.out]; rfl)
                have i1 : (0 : Int) ≤ (da : Int) := Int.natCast_nonneg _
                clear hmid hlt
                go_wp2
                go_meet
                rw [hpl.out]
                exact hput.out
            case rest =>
              rename World => w6
              have Hmid4 := Lib.hid hcut
              have hz6 := hcut.2.2.2.2
              obtain ⟨a0, a1, a2, a3, a4, az⟩ := cells_of_arr hcut.1
              obtain ⟨e0, e1, e2, e3, e4, ez⟩ := cells_of_arr hcut.2.1
              have hpn : (placeRegs s x vals 0).n = 0 := rfl
              rw [hpn] at a4
              simp only [] at e0 e1 e2 e3 e4
              have hSL := Hs.out.up hcut.2.2.2.1 hcut.2.2.2.1.size
              have HSL := Lib.hid hSL
              have hmac : macL (bs.drop k) = if s.n = 0 then some (placeRegs s x vals 0, bs.drop j) else (numberL (bs.drop j)).map fun y => (placeRegs s x vals (unfoldN y.1), y.2) := by
                rw [hgo.out, Hq.out]
                rfl
              have Hmac := Lib.hid hmac
              have hset : Hid (∀ y : Int, (⟨(placeRegs s x vals 0).op, (placeRegs s x vals 0).dst, (placeRegs s x vals 0).a, (placeRegs s x vals 0).b, y⟩ : Mac) = placeRegs s x vals y) := Lib.hid fun y => rfl
              generalize placeRegs s x vals 0 = m at *
              clear hcut hSL hmac Hmid3
              go_upto_region 32 with fail
              go_cut [126] (fun s126 wx => s126 = .bool (s.n != 0) ∧ wx = w6)
              case first =>
                have g4 := G4.out
                have g5 := G5.out
                have g6 := G6.out
                have g7 := G7.out
                obtain ⟨kd, hkd⟩ : ∃ kd, s.n = kd := ⟨_, rfl⟩
                have g8 := G8.out
                rw [hkd] at g4 g5 g6 g7 g8
                have Hkd := Lib.hid hkd
                clear hkd
                rcases g8 with rfl | rfl | rfl | rfl | rfl
                all_goals
                  simp only [Int.reduceBEq] at g4 g5 g6 g7
                  go_wp2_with (go_at_call 100; refine Has_any f _ (by omega) (by omega) Hsz.out _ _ ?_)
                  go_meet
                  exact ⟨by rw [Hkd.out]; rfl, rfl⟩
              case rest =>
                obtain ⟨rfl, rfl⟩ := hcut
                have hend : Hid (∀ m' r, macL (bs.drop k) = some (m', r) → ∀ W, Below w.heap.size w W → R (.returned (.tuple #[.agg m'.arr, .int .i64 (placeOf bs r)])) W) := Lib.hid fun m' r h W hW => Hsome.out m' r h W hW
                by_cases hn0 : s.n = 0
                · have hb : (s.n != 0) = false := by simp [hn0]
                  have hret := Lib.hid (hend.out m (bs.drop j) (by rw [Hmac.out, if_pos hn0]))
                  have hpo : placeOf bs (bs.drop j) = (j : Int) := by rw [placeOf, List.length_drop]; omega
                  rw [hpo] at hret
                  clear hn0 hpo
                  go_wp2
                  have hm4 : m = ⟨m.op, m.dst, m.a, m.b, 0⟩ := by rw [← hpn]
                  have hfin := Lib.hid (five (a := wc) Hmid4.out.2.1 (.int .i64 m.op) (.int .i64 m.dst) (.int .i64 m.a) (.int .i64 m.b) (.int .i64 0))
                  refine bodyPost_ret (v := .tuple #[.agg m.arr, .int .i64 (j : Int)]) (res_Mac_int (T := 90) (by rfl) (by rfl) (by rfl) (by rw [hm4]; exact hfin.out)) rfl ?_
                  refine hret.out _ (Hmid4.out.2.2.2.1.trans ?_)
                  exact below_five _ _ _ _ _
                · have hb : (s.n != 0) = true := by simp [hn0]
                  have hmac2 := Lib.hid (Hmac.out.trans (if_neg hn0))
                  clear hn0
                  go_wp2_with fail
                  refine readNumber_calls _ bs j _ HSL.out hj hlen _ (fun num r hn hnum => ?_) (fun hnum => ?_)
                  · have hret := Lib.hid (hend.out (placeRegs s x vals (unfoldN num)) r (by rw [hmac2.out, hnum]; rfl))
                    have hpl : Hid (0 ≤ placeOf bs r ∧ placeOf bs r ≤ 100000) := Lib.hid (by
                      have := (numL_drop _ _ _ _ _ _ hnum).2
                      rw [List.length_drop] at this
                      unfold placeOf
                      omega)
                    generalize placeOf bs r = pl at *
                    have p0 := hpl.out.1
                    have p1 := hpl.out.2
                    have n0 : (0 : Int) ≤ (num : Int) := Int.natCast_nonneg _
                    have n1 : (num : Int) / 2 ≤ 9223372036854775807 := by omega
                    have n2 : (0 : Int) ≤ (num : Int) / 2 := by omega
                    clear hnum hmac2 hn
                    by_cases hodd : num % 2 = 1
                    · have ho : (((num : Int) % 2) == 1) = true := by simp; omega
                      clear hodd
                      go_wp2
                      have h1 := set_other Hmid4.out.2.1 (c := w.heap.size + 1) (j := 4) (by omega) (.int .i64 ((num : Int) / 2))
                      have h2 := set_other h1 (c := w.heap.size + 1) (j := 4) (by omega) (.int .i64 (-((num : Int) / 2) - 1))
                      have k1 := (Below.refl w.heap.size wc).setCell (p := ⟨w.heap.size + 1, 4, none⟩) (Nat.le_succ _) (.int .i64 ((num : Int) / 2))
                      have k2 := k1.setCell (p := ⟨w.heap.size + 1, 4, none⟩) (Nat.le_succ _) (.int .i64 (-((num : Int) / 2) - 1))
                      have hu : unfoldN num = -((num : Int) / 2) - 1 := by
                        rw [unfoldN, if_pos (by simp at ho; omega)]
                        omega
                      have hfin := Lib.hid (five h2 (.int .i64 m.op) (.int .i64 m.dst) (.int .i64 m.a) (.int .i64 m.b) (.int .i64 (-((num : Int) / 2) - 1)))
                      refine bodyPost_ret (v := .tuple #[.agg (placeRegs s x vals (unfoldN num)).arr, .int .i64 pl]) (res_Mac_int (T := 90) (by rfl) (by rfl) (by rfl) (by rw [← hset.out, hu]; exact hfin.out)) rfl ?_
                      refine hret.out _ (Hmid4.out.2.2.2.1.trans (k2.trans ?_))
                      exact below_five _ _ _ _ _
                    · have ho : (((num : Int) % 2) == 1) = false := by simp; omega
                      clear hodd
                      go_wp2
                      have h1 := set_other Hmid4.out.2.1 (c := w.heap.size + 1) (j := 4) (by omega) (.int .i64 ((num : Int) / 2))
                      have k1 := (Below.refl w.heap.size wc).setCell (p := ⟨w.heap.size + 1, 4, none⟩) (Nat.le_succ _) (.int .i64 ((num : Int) / 2))
                      have hu : unfoldN num = (num : Int) / 2 := by
                        rw [unfoldN, if_neg (by simp at ho; omega)]
                        omega
                      have hfin := Lib.hid (five h1 (.int .i64 m.op) (.int .i64 m.dst) (.int .i64 m.a) (.int .i64 m.b) (.int .i64 ((num : Int) / 2)))
                      refine bodyPost_ret (v := .tuple #[.agg (placeRegs s x vals (unfoldN num)).arr, .int .i64 pl]) (res_Mac_int (T := 90) (by rfl) (by rfl) (by rfl) (by rw [← hset.out, hu]; exact hfin.out)) rfl ?_
                      refine hret.out _ (Hmid4.out.2.2.2.1.trans (k1.trans ?_))
                      exact below_five _ _ _ _ _
                  · have hno := Lib.hid (Hnone.out (by rw [hmac2.out, hnum]; rfl))
                    clear hnum hmac2
                    go_wp2
                    have hm4 : m = ⟨m.op, m.dst, m.a, m.b, 0⟩ := by rw [← hpn]
                    have hfin := Lib.hid (five (a := wc) Hmid4.out.2.1 (.int .i64 m.op) (.int .i64 m.dst) (.int .i64 m.a) (.int .i64 m.b) (.int .i64 0))
                    refine bodyPost_ret (v := .tuple #[.agg m.arr, .int .i64 (-1)]) (res_Mac_int (T := 90) (by rfl) (by rfl) (by rfl) (by rw [hm4]; exact hfin.out)) rfl ?_
                    refine hno.out _ _ (Hmid4.out.2.2.2.1.trans ?_)
                    exact below_five _ _ _ _ _
end Go.Proofs.YtfhnmbnniklmiaaDoor

/- The document's answer: instructions out of bytes. -/
namespace Go.Proofs.YtfhnmbnniklmiaaDoor
open Go.RowKit
set_option linter.unusedSimpArgs false
set_option linter.unusedVariables false

theorem numL_suffix : ∀ (f i acc : Nat) (bs : List UInt8) (n : Nat) (r : List UInt8), numL f i acc bs = some (n, r) → r <:+ bs
  | 0, _, _, _, _, _, h => by cases h
  | _ + 1, _, _, [], _, _, h => by cases h
  | f + 1, i, acc, b :: bs, n, r, h => by
    unfold numL at h
    split at h
    · cases h
    split at h
    · obtain ⟨_, rfl⟩ := Prod.mk.inj (Option.some.inj h)
      exact List.suffix_cons _ _
    · exact (numL_suffix f _ _ _ _ _ h).trans (List.suffix_cons _ _)
theorem regsL_suffix : ∀ (k : Nat) (bs : List UInt8) (l : List Int) (r : List UInt8), regsL k bs = some (l, r) → r <:+ bs
  | 0, bs, l, r, h => by
    unfold regsL at h
    obtain ⟨rfl, rfl⟩ := Prod.mk.inj (Option.some.inj h)
    exact List.suffix_refl _
  | 1, [], l, r, h => by simp [regsL] at h
  | n + 2, [], l, r, h => by simp [regsL] at h
  | 1, b :: bs, l, r, h => by
    unfold regsL at h
    split at h
    · cases h
    · obtain ⟨rfl, rfl⟩ := Prod.mk.inj (Option.some.inj h)
      exact List.suffix_cons _ _
  | n + 2, b :: bs, l, r, h => by
    unfold regsL at h
    rw [Option.map_eq_some_iff] at h
    obtain ⟨⟨l', r'⟩, h1, h2⟩ := h
    obtain ⟨rfl, rfl⟩ := Prod.mk.inj h2
    exact (regsL_suffix n bs _ _ h1).trans (List.suffix_cons _ _)
theorem macL_suffix {bs : List UInt8} {m : Mac} {r : List UInt8} (h : macL bs = some (m, r)) : r <:+ bs := by
  cases bs with
  | nil => cases h
  | cons b bs =>
    rw [macL] at h
    split at h
    · cases h
    rw [Option.bind_eq_some_iff] at h
    obtain ⟨⟨l, r'⟩, h1, h2⟩ := h
    have s1 := regsL_suffix _ _ _ _ h1
    split at h2
    · obtain ⟨_, rfl⟩ := Prod.mk.inj (Option.some.inj h2)
      exact s1.trans (List.suffix_cons _ _)
    · rw [Option.map_eq_some_iff] at h2
      obtain ⟨⟨x, r''⟩, h3, h4⟩ := h2
      obtain ⟨_, rfl⟩ := Prod.mk.inj h4
      exact ((numL_suffix _ _ _ _ _ _ h3).trans s1).trans (List.suffix_cons _ _)
theorem macL_at {bs r : List UInt8} {m : Mac} {j : Nat} (h : macL (bs.drop j) = some (m, r)) : ∃ i : Nat, placeOf bs r = (i : Int) ∧ r = bs.drop i ∧ j < i ∧ i ≤ bs.length := by
  have h1 := (macL_suffix h).trans (List.drop_suffix j bs)
  have h2 := h1.length_le
  have h3 := macL_short h
  rw [List.length_drop] at h3
  refine ⟨bs.length - r.length, by unfold placeOf; omega, List.suffix_iff_eq_drop.1 h1, by omega, by omega⟩

set_option maxRecDepth 100000 in
set_option maxHeartbeats 4000000 in
theorem BytesRead_own (v : Value) (bs : List UInt8) (w : World) (h : rpByte.SL w w.heap.size bs v) (R : Ending → World → Prop)
    (hsome : ∀ l, readL bs = some l → ∀ w' u, Below w.heap.size w w' → w'.ownsRow w.heap.size 90 5 u l.length (l.flatMap Mac.cells) → R (.returned (.tuple #[u, .agg #[.int .i64 0, .int .i64 0]])) w')
    (hnone : readL bs = none → ∀ w' (c a : Int), c ≠ 0 → Below w.heap.size w w' → R (.returned (.tuple #[.slice none 0 0, .agg #[.int .i64 c, .int .i64 a]])) w') :
    Calls Tryd.prog 42 #[v] w R := by
  have Hsome := Lib.hid hsome
  have Hnone := Lib.hid hnone
  obtain ⟨A, n, rfl, hm, hcap, hs⟩ := h.cases_
  obtain ⟨i0, hi, iz0, iz1, iz2⟩ := info_parts info_Mac
  have Hs := Lib.hid hs
  clear hsome hnone h hs
  by_cases hmany : 70000 < bs.length
  · have hno := Lib.hid (Hnone.out (by rw [readL_eq, if_pos hmany]))
    have hmi : (70000 : Int) < (bs.length : Int) := by omega
    clear hmany
    go_enter Tryd.func42, Tryd.ntmps42
    go_wp2
    refine bodyPost_ret (v := .tuple #[.slice none 0 0, (.agg #[.int .i64 ((2, 0)).1, .int .i64 ((2, 0)).2])]) (by simp [results, Tryd.results42, go_sem]) rfl ?_
    exact hno.out _ 2 0 (by decide) bl0
  · have hmi : ¬ (70000 : Int) < (bs.length : Int) := by omega
    have hF : ∀ wr, Below (w.heap.size + 1) (w.alloc (Obj.cells #[.int .i64 0, .int .i64 0] 25)) wr → Below w.heap.size w wr := fun wr h => ((Below.refl _ _).alloc (Nat.le_refl _) _).trans (h.mono (by omega))
    have HF := Lib.hid hF
    have hlen : bs.length ≤ 70000 := by omega
    clear hF
    go_enter Tryd.func42, Tryd.ntmps42
    go_wp2
    go_loopg [4, 5, 6, 7, 17] bs.length (fun g out at_ mm nx tt wr => ∃ (done : List Mac) (j : Nat), g = bs.length - j ∧ at_ = .int .i64 (j : Int) ∧ j ≤ bs.length ∧ done.length ≤ j ∧ wr.ownsRow (w.heap.size + 1) 90 5 out done.length (done.flatMap Mac.cells) ∧ Below (w.heap.size + 1) (w.alloc (Obj.cells #[.int .i64 0, .int .i64 0] 25)) wr ∧ (macsAll (bs.drop j)).map (fun l => done ++ l) = macsAll bs)
    case atStart => exact ⟨[], 0, rfl, rfl, by omega, by simp, World.ownsRow_nil _ _ _ _, Below.refl _ _, by simp⟩
    case round =>
      obtain ⟨done, j, rfl, rfl, hj, hlen2, hown, hbel, hq⟩ := hrel
      have Hq := Lib.hid hq
      have Hbel := Lib.hid hbel
      have Hown := Lib.hid hown
      have hz := hbel.size
      simp at hz
      have d0 : wr.cell? ⟨w.heap.size, 0, none⟩ = some (.int .i64 0) := by rw [hbel.cell (by simp)]; simp
      have d1 : wr.cell? ⟨w.heap.size, 1, none⟩ = some (.int .i64 0) := by rw [hbel.cell (by simp)]; simp
      have e0 : wr.frozen? ⟨w.heap.size, 0, none⟩ = false := by rw [hbel.frozen (by simp)]; simp
      have e1 : wr.frozen? ⟨w.heap.size, 1, none⟩ = false := by rw [hbel.frozen (by simp)]; simp
      have j0 : (0 : Int) ≤ (j : Int) := Int.natCast_nonneg _
      have HSr := Lib.hid (Hs.out.up (HF.out _ hbel) (HF.out _ hbel).size)
      clear hq hbel hown
      by_cases hlt : j < bs.length
      · have hji : (j : Int) < (bs.length : Int) := by omega
        go_wp2_with fail
        refine ReadMac_calls _ bs j _ HSr.out hlt (by omega) _ (fun m r hmac w1 hb1 => ?_) (fun hmac w1 m hb1 => ?_)
        · obtain ⟨i, hpl, rfl, hi1, hi2⟩ := macL_at hmac
          rw [hpl]
          have hq1 := macs_some Hq.out hmac
          have hown1 := Hown.out.kept (⟨hb1.os, hb1.tape, hb1.output, hb1.size, fun k hk _ => hb1.block k hk⟩ : wr.grownBy w1 none) (by cases hv : Value.ownBlock _ <;> simp)
          have hbel1 : Below (w.heap.size + 1) (w.alloc (Obj.cells #[.int .i64 0, .int .i64 0] 25)) w1 := Hbel.out.trans (hb1.mono (by omega))
          have hz1 := hb1.size
          have Hq1 := Lib.hid hq1
          have Hbel1 := Lib.hid hbel1
          have i0' : (0 : Int) ≤ (i : Int) := Int.natCast_nonneg _
          have hin : ¬ (i : Int) < 0 := by omega
          rw [show m.arr = #[.int .i64 m.op, .int .i64 m.dst, .int .i64 m.a, .int .i64 m.b, .int .i64 m.n] from rfl]
          clear hq1 hbel1 hmac d0 d1 e0 e1 hb1 hpl
          obtain ⟨A5, c5, rfl⟩ := own_slice hown1
          go_wp2_with (at_builtin; refine wpList_append_own _ rfl _ _ 86 rfl (w.heap.size + 1) 90 i0 _ 5 40 Tryd.underlying86 hi iz0 iz1 iz2 rfl (by decide) (.slice A5 done.length c5) done.length (done.flatMap Mac.cells) rfl ((hown1.alloc _).alloc _) ⟨w1.heap.size + 1, 0, none⟩ 1 1 [.int .i64 m.op, .int .i64 m.dst, .int .i64 m.a, .int .i64 m.b, .int .i64 m.n] rfl rfl ?_ ?_ ?_ ?_ ?_ ?_)
          any_goals first | exact World.news_of_block (cs := #[.int .i64 m.op, .int .i64 m.dst, .int .i64 m.a, .int .i64 m.b, .int .i64 m.n]) (t := 90) (fr := (0, 0)) (by have := heap_alloc_new (w1.alloc (Obj.cells #[.int .i64 m.op, .int .i64 m.dst, .int .i64 m.a, .int .i64 m.b, .int .i64 m.n] 90)) (Obj.cells #[.int .i64 m.op, .int .i64 m.dst, .int .i64 m.a, .int .i64 m.b, .int .i64 m.n] 90); simpa using this) | (simp [Value.oneCell']; done) | (unfold maxLen; omega) | omega | (simp; done) | (simp; omega)
          · intro v' w2 hown2 hgrow _
            have hgr : ∀ k, (Value.slice A5 done.length c5).ownBlock = some k → w.heap.size + 1 ≤ k := fun k hk => (hown1.lt k hk).1
            have hb12 : Below (w.heap.size + 1) w1 w2 := (((Below.refl _ w1).alloc (by omega) (Obj.cells #[.int .i64 m.op, .int .i64 m.dst, .int .i64 m.a, .int .i64 m.b, .int .i64 m.n] 90)).alloc (by simp; omega) (Obj.cells #[.int .i64 m.op, .int .i64 m.dst, .int .i64 m.a, .int .i64 m.b, .int .i64 m.n] 90)).grown hgrow (by simp; omega) hgr
            have H1 := Lib.hid (And.intro hown2 (Hbel1.out.trans hb12))
            clear hown1 hown2 hgrow hgr hb12
            go_wp2
            go_roundg (bs.length - i)
            case measure => omega
            case rel => exact ⟨done ++ [m], i, rfl, rfl, hi2, by simp; omega, by simpa [Mac.cells] using H1.out.1, H1.out.2, Hq1.out⟩
        · have hno := Lib.hid (Hnone.out (macs_none Hq.out (by intro h; have := congrArg List.length h; simp at this; omega) hmac))
          have hz1 := hb1.size
          have hbel1 : Below (w.heap.size + 1) (w.alloc (Obj.cells #[.int .i64 0, .int .i64 0] 25)) w1 := Hbel.out.trans (hb1.mono (by omega))
          have f0 : w1.cell? ⟨w.heap.size, 0, none⟩ = some (.int .i64 0) := by rw [hbel1.cell (by simp)]; simp
          have f1 : w1.cell? ⟨w.heap.size, 1, none⟩ = some (.int .i64 0) := by rw [hbel1.cell (by simp)]; simp
          have g0 : w1.frozen? ⟨w.heap.size, 0, none⟩ = false := by rw [hbel1.frozen (by simp)]; simp
          have g1 : w1.frozen? ⟨w.heap.size, 1, none⟩ = false := by rw [hbel1.frozen (by simp)]; simp
          have Hbel1 := Lib.hid hbel1
          have hpw : w.heap.size < w1.heap.size := by omega
          rw [show m.arr = #[.int .i64 m.op, .int .i64 m.dst, .int .i64 m.a, .int .i64 m.b, .int .i64 m.n] from rfl]
          clear hbel1 hmac d0 d1 e0 e1 hb1
          go_wp2
          have hbel1 := Hbel1.out
          refine bodyPost_ret (v := .tuple #[.slice none 0 0, (.agg #[.int .i64 ((1, (j : Int))).1, .int .i64 ((1, (j : Int))).2])]) (res_slice_Fault (by rfl) (by rfl) (by rfl) (cells_alloc2 (cells_set2 (a := w.alloc (Obj.cells #[Value.int IntKind.i64 0, Value.int IntKind.i64 0] 25)) (B := w.heap.size + 1) hbel1 (Nat.lt_succ_self _) (by simp; rfl) (by simp; rfl) _ _) _)) rfl ?_
          have hb3 := HF.out _ hbel1
          have hb4 := hb3.setCell (p := ⟨w.heap.size, 0, none⟩) (Nat.le_refl _) (.int .i64 1)
          have hb5 := hb4.setCell (p := ⟨w.heap.size, 1, none⟩) (Nat.le_refl _) (.int .i64 (j : Int))
          exact hno.out _ 1 _ (by decide) (hb5.alloc (Nat.le_trans (Nat.le_of_lt hpw) (by simp [World.setCell])) _)
      · obtain rfl : j = bs.length := by omega
        have hq2 := Hq.out
        rw [List.drop_length] at hq2
        have hrl := macs_end hq2 (by omega)
        have hsl2 := SLMac_own Hown.out (Nat.le_refl _)
        have Hrl := Lib.hid hrl
        clear hrl hq2
        go_wp2_with fail
        refine RefMacCheck_calls _ done _ hsl2 _ (fun w1 hb1 => ?_)
        have hbel2 : Below (w.heap.size + 1) (w.alloc (Obj.cells #[.int .i64 0, .int .i64 0] 25)) w1 := Hbel.out.trans (hb1.mono (by omega))
        have f0 : w1.cell? ⟨w.heap.size, 0, none⟩ = some (.int .i64 0) := by rw [hbel2.cell (by simp)]; simp
        have f1 : w1.cell? ⟨w.heap.size, 1, none⟩ = some (.int .i64 0) := by rw [hbel2.cell (by simp)]; simp
        have g0 : w1.frozen? ⟨w.heap.size, 0, none⟩ = false := by rw [hbel2.frozen (by simp)]; simp
        have g1 : w1.frozen? ⟨w.heap.size, 1, none⟩ = false := by rw [hbel2.frozen (by simp)]; simp
        have hz1 := hb1.size
        have hpw : w.heap.size < w1.heap.size := by omega
        have Hbel2 := Lib.hid hbel2
        have hown1 := Hown.out.kept (⟨hb1.os, hb1.tape, hb1.output, hb1.size, fun k hk _ => hb1.block k hk⟩ : wr.grownBy w1 none) (by cases hv : Value.ownBlock _ <;> simp)
        have Hown1 := Lib.hid hown1
        have hmz := macsFault_zero done
        generalize macsFault done = F at *
        obtain ⟨c, a⟩ := F
        simp only [] at hmz ⊢
        clear hbel2 d0 d1 e0 e1 hb1 hsl2 hown1
        by_cases hc : c = 0
        · have hca := hmz hc
          simp only [Prod.mk.injEq] at hca
          obtain ⟨rfl, rfl⟩ := hca
          have hso := Hsome.out done (by rw [Hrl.out, if_pos rfl])
          have Hso := Lib.hid hso
          clear hso hmz hc
          go_wp2
          refine bodyPost_ret (v := .tuple #[u4, (.agg #[.int .i64 ((0, 0)).1, .int .i64 ((0, 0)).2])]) (res_slice_Fault (by rfl) (by rfl) (by rfl) (cells_alloc2 (cells_set2 (a := w.alloc (Obj.cells #[Value.int IntKind.i64 0, Value.int IntKind.i64 0] 25)) (B := w.heap.size + 1) Hbel2.out (Nat.lt_succ_self _) (by simp; rfl) (by simp; rfl) _ _) _)) rfl ?_
          have hb3 := HF.out _ Hbel2.out
          have hb4 := hb3.setCell (p := ⟨w.heap.size, 0, none⟩) (Nat.le_refl _) (.int .i64 0)
          have hb5 := hb4.setCell (p := ⟨w.heap.size, 1, none⟩) (Nat.le_refl _) (.int .i64 0)
          have hw1 := ownsRow_setCell_below (ownsRow_setCell_below Hown1.out (a := ⟨w.heap.size, 0, none⟩) (Nat.lt_succ_self w.heap.size) (.int .i64 0)) (a := ⟨w.heap.size, 1, none⟩) (Nat.lt_succ_self w.heap.size) (.int .i64 0)
          exact Hso.out _ _ (hb5.alloc (Nat.le_trans (Nat.le_of_lt hpw) (by simp [World.setCell])) _) (ownsRow_base (hw1.alloc _) (by omega))
        · have hno := Lib.hid (Hnone.out (by rw [Hrl.out, if_neg (by simp [hc])]))
          have hcn : (c != 0) = true := by simp [hc]
          have Hc := Lib.hid hc
          clear hmz hc
          go_wp2
          go_region
          go_wp2
          refine bodyPost_ret (v := .tuple #[.slice none 0 0, (.agg #[.int .i64 ((c, a)).1, .int .i64 ((c, a)).2])]) (res_slice_Fault (by rfl) (by rfl) (by rfl) (cells_alloc2 (cells_set2 (a := w.alloc (Obj.cells #[Value.int IntKind.i64 0, Value.int IntKind.i64 0] 25)) (B := w.heap.size + 1) Hbel2.out (Nat.lt_succ_self _) (by simp; rfl) (by simp; rfl) _ _) _)) rfl ?_
          have hb3 := HF.out _ Hbel2.out
          have hb4 := hb3.setCell (p := ⟨w.heap.size, 0, none⟩) (Nat.le_refl _) (.int .i64 c)
          have hb5 := hb4.setCell (p := ⟨w.heap.size, 1, none⟩) (Nat.le_refl _) (.int .i64 a)
          exact hno.out _ c a Hc.out (Below.drew (hb5.alloc (Nat.le_trans (Nat.le_of_lt hpw) (by simp [World.setCell])) _))
theorem BytesRead_calls (v : Value) (bs : List UInt8) (w : World) (h : rpByte.SL w w.heap.size bs v) (R : Ending → World → Prop)
    (hsome : ∀ l, readL bs = some l → ∀ w' u, Below w.heap.size w w' → rpMac.SL w' w'.heap.size l u → R (.returned (.tuple #[u, .agg #[.int .i64 0, .int .i64 0]])) w')
    (hnone : readL bs = none → ∀ w' (c a : Int), c ≠ 0 → Below w.heap.size w w' → R (.returned (.tuple #[.slice none 0 0, .agg #[.int .i64 c, .int .i64 a]])) w') :
    Calls Tryd.prog 42 #[v] w R :=
  BytesRead_own v bs w h R (fun l hl w' u hb ho => hsome l hl w' u hb (SLMac_own ho (Nat.le_refl _))) hnone
end Go.Proofs.YtfhnmbnniklmiaaDoor