/- The document's answer: what is wrong with an instruction. The document's answer: what is wrong with a list of instructions. The document's answer: a number that stands at a place. -/
import Derived.Test.YtemakpjickbmnaaDoorBase
import Derived.Test.YtemakpjickbmnaaDoorRows
import Derived.IntWalk
import Derived.Deep.LoopGhost
import Derived.Test.YtemakpjickbmnaaDoorReadB
import Derived.Test.YtemakpjickbmnaaDoorMacB
/- The document's answer: what is wrong with an instruction. -/
namespace Go.Proofs.YtemakpjickbmnaaDoor
open Go.RowKit
set_option linter.unusedSimpArgs false
set_option linter.unusedVariables false

theorem fields_has (op : Int) (h : known op = true) : (fieldsOf op).size ≤ 3 ∧ ((fieldsOf op).toList == [63]) = false ∧ hasB (fieldsOf op) 100 (fieldsOf op).size 0 = (shapeOf op).d ∧ hasB (fieldsOf op) 97 (fieldsOf op).size 0 = (shapeOf op).a ∧ hasB (fieldsOf op) 98 (fieldsOf op).size 0 = (shapeOf op).b ∧
    hasB (fieldsOf op) 110 (fieldsOf op).size 0 = ((shapeOf op).n == 1) ∧ hasB (fieldsOf op) 116 (fieldsOf op).size 0 = ((shapeOf op).n == 2) ∧ hasB (fieldsOf op) 119 (fieldsOf op).size 0 = ((shapeOf op).n == 3) ∧ hasB (fieldsOf op) 114 (fieldsOf op).size 0 = ((shapeOf op).n == 4) ∧
    ((shapeOf op).n = 0 ∨ (shapeOf op).n = 1 ∨ (shapeOf op).n = 2 ∨ (shapeOf op).n = 3 ∨ (shapeOf op).n = 4) := by
  have hb : 1 ≤ op ∧ op ≤ 47 := by simpa [known] using h
  obtain ⟨k, rfl⟩ : ∃ k : Nat, op = (k : Int) := ⟨op.toNat, by omega⟩
  have e1 : fieldsOf (k : Int) = fieldsTab.getD k ⟨#[63]⟩ := by rw [fieldsOf, if_pos hb]; rfl
  have e2 : shapeOf (k : Int) = shapeTab.getD k ⟨false, false, false, 0⟩ := by rw [shapeOf, if_pos hb]; rfl
  rw [e1, e2]
  have key : ∀ k : Nat, k < 48 → 1 ≤ k → (fieldsTab.getD k ⟨#[63]⟩).size ≤ 3 ∧ ((fieldsTab.getD k ⟨#[63]⟩).toList == [63]) = false ∧ hasB (fieldsTab.getD k ⟨#[63]⟩) 100 (fieldsTab.getD k ⟨#[63]⟩).size 0 = (shapeTab.getD k ⟨false, false, false, 0⟩).d ∧ hasB (fieldsTab.getD k ⟨#[63]⟩) 97 (fieldsTab.getD k ⟨#[63]⟩).size 0 = (shapeTab.getD k ⟨false, false, false, 0⟩).a ∧ hasB (fieldsTab.getD k ⟨#[63]⟩) 98 (fieldsTab.getD k ⟨#[63]⟩).size 0 = (shapeTab.getD k ⟨false, false, false, 0⟩).b ∧
    hasB (fieldsTab.getD k ⟨#[63]⟩) 110 (fieldsTab.getD k ⟨#[63]⟩).size 0 = ((shapeTab.getD k ⟨false, false, false, 0⟩).n == 1) ∧ hasB (fieldsTab.getD k ⟨#[63]⟩) 116 (fieldsTab.getD k ⟨#[63]⟩).size 0 = ((shapeTab.getD k ⟨false, false, false, 0⟩).n == 2) ∧ hasB (fieldsTab.getD k ⟨#[63]⟩) 119 (fieldsTab.getD k ⟨#[63]⟩).size 0 = ((shapeTab.getD k ⟨false, false, false, 0⟩).n == 3) ∧ hasB (fieldsTab.getD k ⟨#[63]⟩) 114 (fieldsTab.getD k ⟨#[63]⟩).size 0 = ((shapeTab.getD k ⟨false, false, false, 0⟩).n == 4) ∧
    ((shapeTab.getD k ⟨false, false, false, 0⟩).n = 0 ∨ (shapeTab.getD k ⟨false, false, false, 0⟩).n = 1 ∨ (shapeTab.getD k ⟨false, false, false, 0⟩).n = 2 ∨ (shapeTab.getD k ⟨false, false, false, 0⟩).n = 3 ∨ (shapeTab.getD k ⟨false, false, false, 0⟩).n = 4) := by decide +kernel
  exact key k (by omega) (by omega)

/-- Does a text have a letter? -/
def hasN (s : ByteArray) (n : Int) : Bool := hasB s (UInt8.ofNat n.toNat) s.size 0
theorem Has_any (s : ByteArray) (n : Int) (h0 : 0 ≤ n) (h1 : n < 256) (hs : s.size ≤ 100) (w : World) (R : Ending → World → Prop) (hR : R (.returned (.bool (hasN s n))) w) :
    Calls Tryd.prog 60 #[.string s, .int .u8 n] w R := by
  have e : n = ((UInt8.ofNat n.toNat).toNat : Nat) := by
    rw [UInt8.toNat_ofNat']
    omega
  have := Has_calls s (UInt8.ofNat n.toNat) hs w R hR
  rw [← e] at this
  exact this

def fsOf (s : Shape) (m : Mac) : List Int := [fieldF s.d m.dst, fieldF s.a m.a, fieldF s.b m.b]
theorem macF_eq {m : Mac} {many : Int} (h : known m.op = true) : macF m many = if (3 : Int) ∈ fsOf (shapeOf m.op) m ∨ numberF (shapeOf m.op).n m.n many = 3 then 3 else if (5 : Int) ∈ fsOf (shapeOf m.op) m ∨ numberF (shapeOf m.op).n m.n many = 5 then 5 else 0 := by
  unfold macF
  rw [if_neg (by simp [h])]
  unfold fsOf
  simp only [List.mem_cons, List.not_mem_nil, or_false, or_assoc, eq_comm (a := (3 : Int)), eq_comm (a := (5 : Int))]

set_option maxRecDepth 100000 in
set_option maxHeartbeats 10000000 in
theorem RefMacF_calls (m : Mac) (many : Int) (w : World) (R : Ending → World → Prop) (hR : ∀ w', Below w.heap.size w w' → R (.returned (.int .i64 (macF m many))) w') :
    Calls Tryd.prog 37 #[.agg #[.int .i64 m.op, .int .i64 m.dst, .int .i64 m.a, .int .i64 m.b, .int .i64 m.n], .int .i64 many] w R := by
  cases hk : known m.op
  · have e : macF m many = 4 := by rw [macF, if_pos hk]
    have ef : fieldsOf m.op = ⟨#[63]⟩ := by
      rw [fieldsOf, if_neg]
      simpa [known] using hk
    rw [e] at hR
    have HR := Lib.hid hR
    clear e hR hk
    go_enter Tryd.func37, Tryd.ntmps37
    go_wp2_with fail
    refine Fields_calls _ _ _ ?_
    intro w1 hb1
    rw [ef]
    obtain ⟨hc1, hf1⟩ := bcell hb1
    clear ef
    go_wp2
    exact HR.out _ bl0
  · obtain ⟨f1, f2, f3, f4, f5, f6, f7, f8, f9, f10⟩ := fields_has _ hk
    have HR := Lib.hid hR
    clear hR
    go_enter Tryd.func37, Tryd.ntmps37
    go_wp2_with fail
    refine Fields_calls _ _ _ ?_
    intro w1 hb1
    have hp0 : w1.cell? ⟨w.heap.size, 1, none⟩ = some (.int .i64 m.dst) := by rw [hb1.cell (by simp)]; simp
    have hp1 : w1.cell? ⟨w.heap.size, 2, none⟩ = some (.int .i64 m.a) := by rw [hb1.cell (by simp)]; simp
    have hp2 : w1.cell? ⟨w.heap.size, 3, none⟩ = some (.int .i64 m.b) := by rw [hb1.cell (by simp)]; simp
    have hp3 : w1.cell? ⟨w.heap.size, 4, none⟩ = some (.int .i64 m.n) := by rw [hb1.cell (by simp)]; simp
    have hz1 : w.heap.size < w1.heap.size := by have := hb1.size; simp at this; omega
    rw [macF_eq hk] at HR
    have hb2 : Below w.heap.size w w1 := bl0
    have Hb2 := Lib.hid hb2
    generalize fieldsOf m.op = f at *
    generalize shapeOf m.op = s at *
    clear hk hb1 hb2
    go_wp2_with fail
    have Hb3 : Hid (Below w.heap.size w (w1.alloc (.cells #[.int .i64 m.dst, .int .i64 m.a, .int .i64 m.b] 3))) := Hb2.out.alloc (by first | omega | (simp; done) | (simp; omega)) _
    have c0 : (w1.alloc (.cells #[.int .i64 m.dst, .int .i64 m.a, .int .i64 m.b] 3)).cell? ⟨w1.heap.size, 0, none⟩ = some (.int .i64 m.dst) := by simp
    have c1 : (w1.alloc (.cells #[.int .i64 m.dst, .int .i64 m.a, .int .i64 m.b] 3)).cell? ⟨w1.heap.size, 1, none⟩ = some (.int .i64 m.a) := by simp
    have c2 : (w1.alloc (.cells #[.int .i64 m.dst, .int .i64 m.a, .int .i64 m.b] 3)).cell? ⟨w1.heap.size, 2, none⟩ = some (.int .i64 m.b) := by simp
    have c3 : (w1.alloc (.cells #[.int .i64 m.dst, .int .i64 m.a, .int .i64 m.b] 3)).cell? ⟨w.heap.size, 4, none⟩ = some (.int .i64 m.n) := by rw [World.cell?_alloc_lt _ _ _ hz1]; exact hp3
    generalize w1.alloc (.cells #[.int .i64 m.dst, .int .i64 m.a, .int .i64 m.b] 3) = w2 at *
    clear Hb2 hp0 hp1 hp2 hp3
    go_loopg [7, 8] 3 (fun g fo i wr => ∃ k : Nat, k ≤ 3 ∧ g = 3 - k ∧ i = .int .i64 k ∧ fo = .bool (decide ((5 : Int) ∈ (fsOf s m).take k)) ∧ (3 : Int) ∉ (fsOf s m).take k ∧ wr = w2)
    case atStart => exact ⟨0, by omega, rfl, rfl, rfl, by simp, rfl⟩
    case round =>
      obtain ⟨k, hk, rfl, rfl, rfl, hok, rfl⟩ := hrel
      have hk' : k = 0 ∨ k = 1 ∨ k = 2 ∨ k = 3 := by omega
      rcases hk' with rfl | rfl | rfl | rfl
      · have Hok := Lib.hid hok
        clear hok
        go_wp2_with fail
        refine Has_calls _ 100 (by omega) _ _ ?_
        rw [f3]
        obtain ⟨q, hq⟩ : ∃ q, decide ((5 : Int) ∈ (fsOf s m).take 0) = q := ⟨_, rfl⟩
        rw [hq]
        have Hq := Lib.hid hq
        clear hq
        cases hu : s.d
        · by_cases hr : m.dst = 0
          · have Hv : Hid (fieldF s.d m.dst = 0) := by rw [Hid, hu, fieldF, if_neg (by simp), if_neg (by simp [hr])]
            have hb : (m.dst != 0) = false := by simp [hr]
            have Hr := Lib.hid hr
            clear hr
            go_wp2
            all_goals try (exfalso; omega)
            go_roundg 2
            case measure => omega
            case rel => exact ⟨1, by omega, rfl, rfl, by first | (rw [← Hq.out]; simp [fsOf, Hv.out]; done) | (simp [fsOf, Hv.out]; done), by have := Hok.out; simp [fsOf, Hv.out] at this ⊢ <;> first | exact this | omega, rfl⟩
          · have Hv : Hid (fieldF s.d m.dst = 5) := by rw [Hid, hu, fieldF, if_neg (by simp), if_pos hr]
            have hb : (m.dst != 0) = true := by simp [hr]
            clear hr
            go_wp2
            all_goals try (exfalso; omega)
            go_roundg 2
            case measure => omega
            case rel => exact ⟨1, by omega, rfl, rfl, by first | (rw [← Hq.out]; simp [fsOf, Hv.out]; done) | (simp [fsOf, Hv.out]; done), by have := Hok.out; simp [fsOf, Hv.out] at this ⊢ <;> first | exact this | omega, rfl⟩
        · by_cases hr : m.dst < 0 ∨ 15 < m.dst
          · have hv : fieldF s.d m.dst = 3 := by rw [hu, fieldF, if_pos rfl, if_pos hr]
            have HR3 : Hid (∀ w', Below w.heap.size w w' → R (.returned (.int .i64 3)) w') := by
              have := HR.out
              rw [if_pos (.inl (by simp [fsOf, hv]))] at this
              exact this
            clear hv HR
            by_cases h1 : m.dst < 0
            · go_wp2
              exact HR3.out _ Hb3.out
            · have h2 : 15 < m.dst := by omega
              go_wp2
              all_goals exact HR3.out _ Hb3.out
          · have Hv : Hid (fieldF s.d m.dst = 0) := by rw [Hid, hu, fieldF, if_pos rfl, if_neg hr]
            have h1 : ¬ m.dst < 0 := by omega
            have h2 : ¬ 15 < m.dst := by omega
            clear hr
            go_wp2
            all_goals try (exfalso; omega)
            go_roundg 2
            case measure => omega
            case rel => exact ⟨1, by omega, rfl, rfl, by first | (rw [← Hq.out]; simp [fsOf, Hv.out]; done) | (simp [fsOf, Hv.out]; done), by have := Hok.out; simp [fsOf, Hv.out] at this ⊢ <;> first | exact this | omega, rfl⟩
      · have Hok := Lib.hid hok
        clear hok
        go_wp2_with fail
        refine Has_calls _ 97 (by omega) _ _ ?_
        rw [f4]
        obtain ⟨q, hq⟩ : ∃ q, decide ((5 : Int) ∈ (fsOf s m).take 1) = q := ⟨_, rfl⟩
        rw [hq]
        have Hq := Lib.hid hq
        clear hq
        cases hu : s.a
        · by_cases hr : m.a = 0
          · have Hv : Hid (fieldF s.a m.a = 0) := by rw [Hid, hu, fieldF, if_neg (by simp), if_neg (by simp [hr])]
            have hb : (m.a != 0) = false := by simp [hr]
            have Hr := Lib.hid hr
            clear hr
            go_wp2
            all_goals try (exfalso; omega)
            go_roundg 1
            case measure => omega
            case rel => exact ⟨2, by omega, rfl, rfl, by first | (rw [← Hq.out]; simp [fsOf, Hv.out]; done) | (simp [fsOf, Hv.out]; done), by have := Hok.out; simp [fsOf, Hv.out] at this ⊢ <;> first | exact this | omega, rfl⟩
          · have Hv : Hid (fieldF s.a m.a = 5) := by rw [Hid, hu, fieldF, if_neg (by simp), if_pos hr]
            have hb : (m.a != 0) = true := by simp [hr]
            clear hr
            go_wp2
            all_goals try (exfalso; omega)
            go_roundg 1
            case measure => omega
            case rel => exact ⟨2, by omega, rfl, rfl, by first | (rw [← Hq.out]; simp [fsOf, Hv.out]; done) | (simp [fsOf, Hv.out]; done), by have := Hok.out; simp [fsOf, Hv.out] at this ⊢ <;> first | exact this | omega, rfl⟩
        · by_cases hr : m.a < 0 ∨ 15 < m.a
          · have hv : fieldF s.a m.a = 3 := by rw [hu, fieldF, if_pos rfl, if_pos hr]
            have HR3 : Hid (∀ w', Below w.heap.size w w' → R (.returned (.int .i64 3)) w') := by
              have := HR.out
              rw [if_pos (.inl (by simp [fsOf, hv]))] at this
              exact this
            clear hv HR
            by_cases h1 : m.a < 0
            · go_wp2
              exact HR3.out _ Hb3.out
            · have h2 : 15 < m.a := by omega
              go_wp2
              all_goals exact HR3.out _ Hb3.out
          · have Hv : Hid (fieldF s.a m.a = 0) := by rw [Hid, hu, fieldF, if_pos rfl, if_neg hr]
            have h1 : ¬ m.a < 0 := by omega
            have h2 : ¬ 15 < m.a := by omega
            clear hr
            go_wp2
            all_goals try (exfalso; omega)
            go_roundg 1
            case measure => omega
            case rel => exact ⟨2, by omega, rfl, rfl, by first | (rw [← Hq.out]; simp [fsOf, Hv.out]; done) | (simp [fsOf, Hv.out]; done), by have := Hok.out; simp [fsOf, Hv.out] at this ⊢ <;> first | exact this | omega, rfl⟩
      · have Hok := Lib.hid hok
        clear hok
        go_wp2_with fail
        refine Has_calls _ 98 (by omega) _ _ ?_
        rw [f5]
        obtain ⟨q, hq⟩ : ∃ q, decide ((5 : Int) ∈ (fsOf s m).take 2) = q := ⟨_, rfl⟩
        rw [hq]
        have Hq := Lib.hid hq
        clear hq
        cases hu : s.b
        · by_cases hr : m.b = 0
          · have Hv : Hid (fieldF s.b m.b = 0) := by rw [Hid, hu, fieldF, if_neg (by simp), if_neg (by simp [hr])]
            have hb : (m.b != 0) = false := by simp [hr]
            have Hr := Lib.hid hr
            clear hr
            go_wp2
            all_goals try (exfalso; omega)
            go_roundg 0
            case measure => omega
            case rel => exact ⟨3, by omega, rfl, rfl, by first | (rw [← Hq.out]; simp [fsOf, Hv.out]; done) | (simp [fsOf, Hv.out]; done), by have := Hok.out; simp [fsOf, Hv.out] at this ⊢ <;> first | exact this | omega, rfl⟩
          · have Hv : Hid (fieldF s.b m.b = 5) := by rw [Hid, hu, fieldF, if_neg (by simp), if_pos hr]
            have hb : (m.b != 0) = true := by simp [hr]
            clear hr
            go_wp2
            all_goals try (exfalso; omega)
            go_roundg 0
            case measure => omega
            case rel => exact ⟨3, by omega, rfl, rfl, by first | (rw [← Hq.out]; simp [fsOf, Hv.out]; done) | (simp [fsOf, Hv.out]; done), by have := Hok.out; simp [fsOf, Hv.out] at this ⊢ <;> first | exact this | omega, rfl⟩
        · by_cases hr : m.b < 0 ∨ 15 < m.b
          · have hv : fieldF s.b m.b = 3 := by rw [hu, fieldF, if_pos rfl, if_pos hr]
            have HR3 : Hid (∀ w', Below w.heap.size w w' → R (.returned (.int .i64 3)) w') := by
              have := HR.out
              rw [if_pos (.inl (by simp [fsOf, hv]))] at this
              exact this
            clear hv HR
            by_cases h1 : m.b < 0
            · go_wp2
              exact HR3.out _ Hb3.out
            · have h2 : 15 < m.b := by omega
              go_wp2
              all_goals exact HR3.out _ Hb3.out
          · have Hv : Hid (fieldF s.b m.b = 0) := by rw [Hid, hu, fieldF, if_pos rfl, if_neg hr]
            have h1 : ¬ m.b < 0 := by omega
            have h2 : ¬ 15 < m.b := by omega
            clear hr
            go_wp2
            all_goals try (exfalso; omega)
            go_roundg 0
            case measure => omega
            case rel => exact ⟨3, by omega, rfl, rfl, by first | (rw [← Hq.out]; simp [fsOf, Hv.out]; done) | (simp [fsOf, Hv.out]; done), by have := Hok.out; simp [fsOf, Hv.out] at this ⊢ <;> first | exact this | omega, rfl⟩
      · have ht3 : (fsOf s m).take 3 = fsOf s m := rfl
        rw [ht3] at hok ⊢
        obtain ⟨q, hq⟩ : ∃ q, decide ((5 : Int) ∈ fsOf s m) = q := ⟨_, rfl⟩
        rw [hq]
        have HR' : Hid (∀ w', Below w.heap.size w w' → R (.returned (.int .i64 (if numberF s.n m.n many = 3 then 3 else if q = true ∨ numberF s.n m.n many = 5 then 5 else 0))) w') := by
          have e : (if (3 : Int) ∈ fsOf s m ∨ numberF s.n m.n many = 3 then (3 : Int) else if (5 : Int) ∈ fsOf s m ∨ numberF s.n m.n many = 5 then 5 else 0) = (if numberF s.n m.n many = 3 then 3 else if q = true ∨ numberF s.n m.n many = 5 then 5 else 0) := by
            simp only [hok, false_or, ← hq, decide_eq_true_eq]
          have := HR.out
          rw [e] at this
          exact this
        clear HR hok hq ht3 c0 c1 c2
        obtain ⟨kd, hkd⟩ : ∃ kd, s.n = kd := ⟨_, rfl⟩
        rw [hkd] at HR' f6 f7 f8 f9 f10
        clear hkd f3 f4 f5
        have Hs := Lib.hid (show f.size ≤ 100 from by omega)
        clear f1
        rcases f10 with rfl | rfl | rfl | rfl | rfl
        · have g1 : hasN f 110 = false := f6
          have g2 : hasN f 116 = false := f7
          have g3 : hasN f 119 = false := f8
          have g4 : hasN f 114 = false := f9
          clear f6 f7 f8 f9
          by_cases hn : m.n = 0
          · have e : numberF 0 m.n many = 0 := by simp [numberF, hn]
            rw [e] at HR'
            have hb : (m.n != 0) = false := by simp [hn]
            have Hn := Lib.hid hn
            clear hn
            cases q
            · have HRv : Hid (∀ w', Below w.heap.size w w' → R (.returned (.int .i64 0)) w') := HR'.out
              clear HR'
              go_wp2_with (go_at_call 60; refine Has_any f _ (by omega) (by omega) Hs.out _ _ ?_)
              all_goals first | exact HRv.out _ Hb3.out | (exfalso; omega)
            · have HRv : Hid (∀ w', Below w.heap.size w w' → R (.returned (.int .i64 5)) w') := HR'.out
              clear HR'
              go_wp2_with (go_at_call 60; refine Has_any f _ (by omega) (by omega) Hs.out _ _ ?_)
              all_goals first | exact HRv.out _ Hb3.out | (exfalso; omega)
          · have e : numberF 0 m.n many = 5 := by simp [numberF, hn]
            rw [e] at HR'
            have hb : (m.n != 0) = true := by simp [hn]
            clear hn
            cases q
            · have HRv : Hid (∀ w', Below w.heap.size w w' → R (.returned (.int .i64 5)) w') := HR'.out
              clear HR'
              go_wp2_with (go_at_call 60; refine Has_any f _ (by omega) (by omega) Hs.out _ _ ?_)
              all_goals first | exact HRv.out _ Hb3.out | (exfalso; omega)
            · have HRv : Hid (∀ w', Below w.heap.size w w' → R (.returned (.int .i64 5)) w') := HR'.out
              clear HR'
              go_wp2_with (go_at_call 60; refine Has_any f _ (by omega) (by omega) Hs.out _ _ ?_)
              all_goals first | exact HRv.out _ Hb3.out | (exfalso; omega)
        · have g1 : hasN f 110 = true := f6
          have g2 : hasN f 116 = false := f7
          have g3 : hasN f 119 = false := f8
          have g4 : hasN f 114 = false := f9
          clear f6 f7 f8 f9
          have e : numberF 1 m.n many = 0 := rfl
          rw [e] at HR'
          cases q
          · have HRv : Hid (∀ w', Below w.heap.size w w' → R (.returned (.int .i64 0)) w') := HR'.out
            clear HR'
            go_wp2_with (go_at_call 60; refine Has_any f _ (by omega) (by omega) Hs.out _ _ ?_)
            all_goals first | exact HRv.out _ Hb3.out | (exfalso; omega)
          · have HRv : Hid (∀ w', Below w.heap.size w w' → R (.returned (.int .i64 5)) w') := HR'.out
            clear HR'
            go_wp2_with (go_at_call 60; refine Has_any f _ (by omega) (by omega) Hs.out _ _ ?_)
            all_goals first | exact HRv.out _ Hb3.out | (exfalso; omega)
        · have g1 : hasN f 110 = false := f6
          have g2 : hasN f 116 = true := f7
          have g3 : hasN f 119 = false := f8
          have g4 : hasN f 114 = false := f9
          clear f6 f7 f8 f9
          by_cases hn : m.n < 0 ∨ many ≤ m.n
          · have e : numberF 2 m.n many = 3 := by simp [numberF, hn]
            rw [e] at HR'
            by_cases h1 : m.n < 0
            · have HRv : Hid (∀ w', Below w.heap.size w w' → R (.returned (.int .i64 3)) w') := HR'.out
              clear HR'
              go_wp2_with (go_at_call 60; refine Has_any f _ (by omega) (by omega) Hs.out _ _ ?_)
              all_goals first | exact HRv.out _ Hb3.out | (exfalso; omega)
            · have h2 : many ≤ m.n := by omega
              have HRv : Hid (∀ w', Below w.heap.size w w' → R (.returned (.int .i64 3)) w') := HR'.out
              clear HR'
              go_wp2_with (go_at_call 60; refine Has_any f _ (by omega) (by omega) Hs.out _ _ ?_)
              all_goals first | exact HRv.out _ Hb3.out | (exfalso; omega)
          · have e : numberF 2 m.n many = 0 := by simp [numberF, hn]
            rw [e] at HR'
            have h1 : ¬ m.n < 0 := by omega
            have h2 : ¬ many ≤ m.n := by omega
            clear hn
            cases q
            · by_cases hz : m.n = 0
              · have hb : (m.n != 0) = false := by simp [hz]
                have Hz := Lib.hid hz
                clear hz
                have HRv : Hid (∀ w', Below w.heap.size w w' → R (.returned (.int .i64 0)) w') := HR'.out
                clear HR'
                go_wp2_with (go_at_call 60; refine Has_any f _ (by omega) (by omega) Hs.out _ _ ?_)
                all_goals first | exact HRv.out _ Hb3.out | (exfalso; omega)
              · have hb : (m.n != 0) = true := by simp [hz]
                clear hz
                have HRv : Hid (∀ w', Below w.heap.size w w' → R (.returned (.int .i64 0)) w') := HR'.out
                clear HR'
                go_wp2_with (go_at_call 60; refine Has_any f _ (by omega) (by omega) Hs.out _ _ ?_)
                all_goals first | exact HRv.out _ Hb3.out | (exfalso; omega)
            · have HRv : Hid (∀ w', Below w.heap.size w w' → R (.returned (.int .i64 5)) w') := HR'.out
              clear HR'
              go_wp2_with (go_at_call 60; refine Has_any f _ (by omega) (by omega) Hs.out _ _ ?_)
              all_goals first | exact HRv.out _ Hb3.out | (exfalso; omega)
        · have g1 : hasN f 110 = false := f6
          have g2 : hasN f 116 = false := f7
          have g3 : hasN f 119 = true := f8
          have g4 : hasN f 114 = false := f9
          clear f6 f7 f8 f9
          by_cases hn : m.n < 0 ∨ 120 ≤ m.n
          · have e : numberF 3 m.n many = 3 := by simp [numberF, hn]
            rw [e] at HR'
            by_cases h1 : m.n < 0
            · have HRv : Hid (∀ w', Below w.heap.size w w' → R (.returned (.int .i64 3)) w') := HR'.out
              clear HR'
              go_wp2_with (go_at_call 60; refine Has_any f _ (by omega) (by omega) Hs.out _ _ ?_)
              all_goals first | exact HRv.out _ Hb3.out | (exfalso; omega)
            · have h2 : 119 < m.n := by omega
              have HRv : Hid (∀ w', Below w.heap.size w w' → R (.returned (.int .i64 3)) w') := HR'.out
              clear HR'
              go_wp2_with (go_at_call 60; refine Has_any f _ (by omega) (by omega) Hs.out _ _ ?_)
              all_goals first | exact HRv.out _ Hb3.out | (exfalso; omega)
          · have e : numberF 3 m.n many = 0 := by simp [numberF, hn]
            rw [e] at HR'
            have h1 : ¬ m.n < 0 := by omega
            have h2 : ¬ 119 < m.n := by omega
            clear hn
            cases q
            · by_cases hz : m.n = 0
              · have hb : (m.n != 0) = false := by simp [hz]
                have Hz := Lib.hid hz
                clear hz
                have HRv : Hid (∀ w', Below w.heap.size w w' → R (.returned (.int .i64 0)) w') := HR'.out
                clear HR'
                go_wp2_with (go_at_call 60; refine Has_any f _ (by omega) (by omega) Hs.out _ _ ?_)
                all_goals first | exact HRv.out _ Hb3.out | (exfalso; omega)
              · have hb : (m.n != 0) = true := by simp [hz]
                clear hz
                have HRv : Hid (∀ w', Below w.heap.size w w' → R (.returned (.int .i64 0)) w') := HR'.out
                clear HR'
                go_wp2_with (go_at_call 60; refine Has_any f _ (by omega) (by omega) Hs.out _ _ ?_)
                all_goals first | exact HRv.out _ Hb3.out | (exfalso; omega)
            · have HRv : Hid (∀ w', Below w.heap.size w w' → R (.returned (.int .i64 5)) w') := HR'.out
              clear HR'
              go_wp2_with (go_at_call 60; refine Has_any f _ (by omega) (by omega) Hs.out _ _ ?_)
              all_goals first | exact HRv.out _ Hb3.out | (exfalso; omega)
        · have g1 : hasN f 110 = false := f6
          have g2 : hasN f 116 = false := f7
          have g3 : hasN f 119 = false := f8
          have g4 : hasN f 114 = true := f9
          clear f6 f7 f8 f9
          by_cases hn : m.n < 0
          · have e : numberF 4 m.n many = 3 := by simp [numberF, hn]
            rw [e] at HR'
            have HRv : Hid (∀ w', Below w.heap.size w w' → R (.returned (.int .i64 3)) w') := HR'.out
            clear HR'
            go_wp2_with (go_at_call 60; refine Has_any f _ (by omega) (by omega) Hs.out _ _ ?_)
            all_goals first | exact HRv.out _ Hb3.out | (exfalso; omega)
          · have e : numberF 4 m.n many = 0 := by simp [numberF, hn]
            rw [e] at HR'
            have h1 : ¬ m.n < 0 := by omega
            clear hn
            cases q
            · by_cases hz : m.n = 0
              · have hb : (m.n != 0) = false := by simp [hz]
                have Hz := Lib.hid hz
                clear hz
                have HRv : Hid (∀ w', Below w.heap.size w w' → R (.returned (.int .i64 0)) w') := HR'.out
                clear HR'
                go_wp2_with (go_at_call 60; refine Has_any f _ (by omega) (by omega) Hs.out _ _ ?_)
                all_goals first | exact HRv.out _ Hb3.out | (exfalso; omega)
              · have hb : (m.n != 0) = true := by simp [hz]
                clear hz
                have HRv : Hid (∀ w', Below w.heap.size w w' → R (.returned (.int .i64 0)) w') := HR'.out
                clear HR'
                go_wp2_with (go_at_call 60; refine Has_any f _ (by omega) (by omega) Hs.out _ _ ?_)
                all_goals first | exact HRv.out _ Hb3.out | (exfalso; omega)
            · have HRv : Hid (∀ w', Below w.heap.size w w' → R (.returned (.int .i64 5)) w') := HR'.out
              clear HR'
              go_wp2_with (go_at_call 60; refine Has_any f _ (by omega) (by omega) Hs.out _ _ ?_)
              all_goals first | exact HRv.out _ Hb3.out | (exfalso; omega)
end Go.Proofs.YtemakpjickbmnaaDoor

/- The document's answer: what is wrong with a list of instructions. -/
namespace Go.Proofs.YtemakpjickbmnaaDoor
open Go.RowKit
set_option linter.unusedSimpArgs false
set_option linter.unusedVariables false

set_option maxRecDepth 100000 in
set_option maxHeartbeats 1000000 in
theorem RefMacCheck_calls (v : Value) (xs : List Mac) (w : World) (h : rpMac.SL w w.heap.size xs v) (R : Ending → World → Prop)
    (hR : ∀ w', Below w.heap.size w w' → R (.returned (.agg #[.int .i64 (macsFault xs).1, .int .i64 (macsFault xs).2])) w') :
    Calls Tryd.prog 11 #[v] w R := by
  obtain ⟨A, n, rfl, hm, hcap, h⟩ := h.cases_
  by_cases h100 : 5000 < xs.length
  · rw [show macsFault xs = (2, 0) from by rw [macsFault, if_pos h100]] at hR
    have h100' : (5000 : Int) < (xs.length : Int) := by omega
    go_enter Tryd.func11, Tryd.ntmps11
    go_wp2
    refine bodyPost_ret (v := (.agg #[.int .i64 ((2, 0)).1, .int .i64 ((2, 0)).2])) (by simp [results, Tryd.results11, go_sem]) rfl ?_
    exact hR _ bl0
  by_cases hnil : xs = []
  · rw [show macsFault xs = (5, 0) from by rw [macsFault, if_neg h100, if_pos hnil]] at hR
    subst hnil
    clear h100
    simp only [List.length_nil] at h hcap hm
    go_enter Tryd.func11, Tryd.ntmps11
    go_wp2
    refine bodyPost_ret (v := (.agg #[.int .i64 ((5, 0)).1, .int .i64 ((5, 0)).2])) (by simp [results, Tryd.results11, go_sem]) rfl ?_
    exact hR _ bl0
  have hpos : 0 < xs.length := List.length_pos_iff.2 hnil
  rw [show macsFault xs = macsFrom xs xs.length 0 from by rw [macsFault, if_neg h100, if_neg hnil]] at hR
  have h100' : ¬ (5000 : Int) < (xs.length : Int) := by omega
  have hnz : ((xs.length : Int) == 0) = false := by simp; omega
  have HR := Lib.hid hR
  clear hR hnil
  go_enter Tryd.func11, Tryd.ntmps11
  go_wp2
  go_loopg [3] xs.length (fun g i wr => ∃ k : Nat, k ≤ xs.length ∧ g = xs.length - k ∧ i = .int .i64 k ∧ macsFrom xs (xs.length - k) k = macsFrom xs xs.length 0 ∧ Below (w.heap.size + 1) (w.alloc (Obj.cells #[Value.int IntKind.i64 0, Value.int IntKind.i64 0] 25)) wr)
  case atStart => exact ⟨0, Nat.zero_le _, rfl, rfl, rfl, Below.refl _ _⟩
  case round =>
    obtain ⟨k, hk, rfl, rfl, ht, hbel⟩ := hrel
    have Ht := Lib.hid ht
    clear ht
    have hz0 : w.heap.size < wr.heap.size := by have := hbel.size; simp at this; omega
    have d0 : wr.cell? ⟨w.heap.size, 0, none⟩ = some (.int .i64 0) := by rw [hbel.cell (by simp)]; simp
    have d1 : wr.cell? ⟨w.heap.size, 1, none⟩ = some (.int .i64 0) := by rw [hbel.cell (by simp)]; simp
    have e0 : wr.frozen? ⟨w.heap.size, 0, none⟩ = false := by rw [hbel.frozen (by simp)]; simp
    have e1 : wr.frozen? ⟨w.heap.size, 1, none⟩ = false := by rw [hbel.frozen (by simp)]; simp
    by_cases hlt : k < xs.length
    · obtain ⟨b, off, m, rfl, hb, e, q0, q1, q2, q3, q4⟩ := h.mac_at hlt
      have Hs := Lib.hid (macsFrom_step e)
      have key : ∀ o u, w.cell? ⟨b, o, none⟩ = some u → wr.cell? ⟨b, o, none⟩ = some u := fun o u hu => (hbel.cell (by show b < _; omega)).trans ((World.cell?_alloc_lt _ _ _ hb).trans hu)
      have p0 := key _ _ q0
      have p1 := key _ _ q1
      have p2 := key _ _ q2
      have p3 := key _ _ q3
      have p4 := key _ _ q4
      have hb' : b < wr.heap.size := by omega
      clear q0 q1 q2 q3 q4 key e
      have i1 : (0 : Int) ≤ (k : Int) := Int.natCast_nonneg _
      have i2 : (k : Int) < (xs.length : Int) := by omega
      go_wp2_with fail
      refine RefMacF_calls m _ _ _ ?_
      intro w1 hb1
      obtain ⟨hc1, hf1⟩ := bcell hb1
      have hz1 : wr.heap.size ≤ w1.heap.size := hb1.size
      have hz2 : w.heap.size < w1.heap.size := by omega
      have hbel1 : Below (w.heap.size + 1) (w.alloc (Obj.cells #[Value.int IntKind.i64 0, Value.int IntKind.i64 0] 25)) w1 := hbel.trans (hb1.mono hz0)
      generalize macF m (xs.length : Int) = c at *
      by_cases hc : c = 0
      · subst hc
        rw [if_neg (by simp)] at Hs
        go_wp2
        go_roundg (xs.length - (k + 1))
        case measure => omega
        case rel => exact ⟨k + 1, by omega, rfl, by go_num, by rw [← Ht.out, Hs.out], hbel1⟩
      · rw [if_pos hc] at Hs
        have hcn : (c != 0) = true := by simp [hc]
        have HR2 : Hid (∀ w', Below w.heap.size w w' → R (.returned (.agg #[.int .i64 ((c, (k : Int))).1, .int .i64 ((c, (k : Int))).2])) w') := by
          have := HR.out
          rw [← Ht.out, Hs.out] at this
          exact this
        clear hc
        go_wp2
        refine bodyPost_ret (v := (.agg #[.int .i64 ((c, (k : Int))).1, .int .i64 ((c, (k : Int))).2])) (res_Fault (by rfl) (by rfl) (cells_set2 (a := w.alloc (Obj.cells #[Value.int IntKind.i64 0, Value.int IntKind.i64 0] 25)) (B := w.heap.size + 1) bl0 (Nat.lt_succ_self _) (by simp; rfl) (by simp; rfl) _ _)) rfl ?_
        exact HR2.out _ bl0
    · obtain rfl : k = xs.length := by omega
      obtain ⟨b, off, m, rfl, hb, e, q0, q1, q2, q3, q4⟩ := h.mac_at (k := xs.length - 1) (by omega)
      have p0 : wr.cell? ⟨b, off + (xs.length - 1) * 5, none⟩ = some (.int .i64 m.op) := (hbel.cell (by show b < _; omega)).trans ((World.cell?_alloc_lt _ _ _ hb).trans q0)
      have He := Lib.hid (macsFrom_end e)
      have i1 : (0 : Int) ≤ (xs.length : Int) - 1 := by omega
      have i3 : (1 : Int) ≤ (xs.length : Int) := by omega
      have i2 : ((xs.length : Int) - 1) < (xs.length : Int) := by omega
      have i4 : ((xs.length : Int) - 1).toNat = xs.length - 1 := by omega
      by_cases h37 : m.op = 37
      · have b1 : (m.op != 37) = false := by simp [h37]
        have HR2 : Hid (∀ w', Below w.heap.size w w' → R (.returned (.agg #[.int .i64 ((0, 0)).1, .int .i64 ((0, 0)).2])) w') := by
          have := HR.out
          rw [← Ht.out, He.out, if_pos (.inl h37)] at this
          exact this
        clear h37
        go_wp2
        refine bodyPost_ret (v := (.agg #[.int .i64 ((0, 0)).1, .int .i64 ((0, 0)).2])) (res_Fault (by rfl) (by rfl) (cells_set2 (a := w.alloc (Obj.cells #[Value.int IntKind.i64 0, Value.int IntKind.i64 0] 25)) (B := w.heap.size + 1) bl0 (Nat.lt_succ_self _) (by simp; rfl) (by simp; rfl) _ _)) rfl ?_
        exact HR2.out _ bl0
      · have b1 : (m.op != 37) = true := by simp [h37]
        by_cases h45 : m.op = 45
        · have b2 : (m.op != 45) = false := by simp [h45]
          have HR2 : Hid (∀ w', Below w.heap.size w w' → R (.returned (.agg #[.int .i64 ((0, 0)).1, .int .i64 ((0, 0)).2])) w') := by
            have := HR.out
            rw [← Ht.out, He.out, if_pos (.inr h45)] at this
            exact this
          clear h37 h45
          go_wp2
          refine bodyPost_ret (v := (.agg #[.int .i64 ((0, 0)).1, .int .i64 ((0, 0)).2])) (res_Fault (by rfl) (by rfl) (cells_set2 (a := w.alloc (Obj.cells #[Value.int IntKind.i64 0, Value.int IntKind.i64 0] 25)) (B := w.heap.size + 1) bl0 (Nat.lt_succ_self _) (by simp; rfl) (by simp; rfl) _ _)) rfl ?_
          exact HR2.out _ bl0
        · have b2 : (m.op != 45) = true := by simp [h45]
          have HR2 : Hid (∀ w', Below w.heap.size w w' → R (.returned (.agg #[.int .i64 ((5, (xs.length : Int) - 1)).1, .int .i64 ((5, (xs.length : Int) - 1)).2])) w') := by
            have := HR.out
            rw [← Ht.out, He.out, if_neg (by omega)] at this
            exact this
          clear h37 h45
          go_wp2
          refine bodyPost_ret (v := (.agg #[.int .i64 ((5, (xs.length : Int) - 1)).1, .int .i64 ((5, (xs.length : Int) - 1)).2])) (res_Fault (by rfl) (by rfl) (cells_set2 (a := w.alloc (Obj.cells #[Value.int IntKind.i64 0, Value.int IntKind.i64 0] 25)) (B := w.heap.size + 1) bl0 (Nat.lt_succ_self _) (by simp; rfl) (by simp; rfl) _ _)) rfl ?_
          exact HR2.out _ bl0
end Go.Proofs.YtemakpjickbmnaaDoor

/- The document's answer: a number that stands at a place. -/
namespace Go.Proofs.YtemakpjickbmnaaDoor
open Go.RowKit
set_option linter.unusedSimpArgs false
set_option linter.unusedVariables false

/-- Where a number ends. -/
def placeOf (bs : List UInt8) (r : List UInt8) : Int := (bs.length : Int) - r.length
theorem numL_drop : ∀ (f i acc : Nat) (bs : List UInt8) (n : Nat) (r : List UInt8), numL f i acc bs = some (n, r) → r = bs.drop (bs.length - r.length) ∧ r.length < bs.length
  | 0, _, _, _, _, _, h => by cases h
  | _ + 1, _, _, [], _, _, h => by cases h
  | f + 1, i, acc, b :: bs, n, r, h => by
    unfold numL at h
    split at h
    · cases h
    split at h
    · obtain ⟨_, rfl⟩ := Prod.mk.inj (Option.some.inj h)
      refine ⟨?_, by simp⟩
      rw [List.length_cons, show bs.length + 1 - bs.length = 1 from by omega]
      rfl
    · obtain ⟨h1, h2⟩ := numL_drop f _ _ _ _ _ h
      refine ⟨?_, by simp; omega⟩
      rw [List.length_cons, show bs.length + 1 - r.length = (bs.length - r.length) + 1 from by omega, List.drop_succ_cons]
      exact h1
theorem drop_cons {bs : List UInt8} {k : Nat} (h : k < bs.length) : bs.drop k = bs[k] :: bs.drop (k + 1) := by
  rw [List.drop_eq_getElem_cons h]

end Go.Proofs.YtemakpjickbmnaaDoor
