/- Instructions of the machine, as they lie; faults compared; core.Within, core.Fault. Instructions of the machine, plainly: what may be, and what bytes tell. Objects, plainly: what may be. Lists of instructions that bytes tell, plainly. Is there a thing of a name in a list: slices.ContainsFunc, its closures. Objects that may be, plainly. -/
import Derived.Test.YtcakodemngchpaaGreatDoorBase
import Derived.Test.YtcakodemngchpaaGreatDoorRows
import Derived.IntWalk
import Derived.Deep.LoopGhost
/- Instructions of the machine, as they lie; faults compared; core.Within, core.Fault. -/
namespace Go.Proofs.YtcakodemngchpaaGreatDoor
open Go.RowKit
set_option linter.unusedSimpArgs false
set_option linter.unusedVariables false
set_option maxHeartbeats 400000 in
theorem Within_calls (n lo hi : Int) (w : World) (R : Ending → World → Prop) (hR : R (.returned (.bool (decide (lo ≤ n ∧ n ≤ hi)))) w) :
    Calls Tryz.prog 86 #[.int .i64 n, .int .i64 lo, .int .i64 hi] w R := by
  by_cases h : lo ≤ n
  · rw [show decide (lo ≤ n ∧ n ≤ hi) = decide (n ≤ hi) from by simp [h]] at hR
    go_enter Tryz.func86, Tryz.ntmps86
    go_wp2
    exact hR
  · rw [show decide (lo ≤ n ∧ n ≤ hi) = false from by simp [h]] at hR
    go_enter Tryz.func86, Tryz.ntmps86
    go_wp2
    exact hR


set_option maxHeartbeats 400000 in
theorem Fault_calls (c a : Int) (w : World) (R : Ending → World → Prop) (hR : ∀ w', Below w.heap.size w w' → R (.returned (.agg #[.int .i64 c, .int .i64 a])) w') :
    Calls Tryz.prog 15 #[.int .i64 c, .int .i64 a] w R := by
  go_enter Tryz.func15, Tryz.ntmps15
  go_wp2
  refine bodyPost_ret (v := (.agg #[.int .i64 ((c, a)).1, .int .i64 ((c, a)).2])) (by simp [results, Tryz.results15, go_sem]) rfl ?_
  exact hR _ bl0

theorem info_Mac : (Tryz.prog.info? 54).map (fun i => (i.zero, i.size, i.bytes)) = some (some (.agg #[.int .i64 0, .int .i64 0, .int .i64 0, .int .i64 0, .int .i64 0]), 5, 40) := by kernel_rfl

structure Mac where
  op : Int
  dst : Int
  a : Int
  b : Int
  n : Int
def Mac.tup (m : Mac) : Int × Int × Int × Int × Int := (m.op, m.dst, m.a, m.b, m.n)
theorem Mac.tup_inj {m n : Mac} (h : m.tup = n.tup) : m = n := by
  cases m
  cases n
  simpa [Mac.tup] using h
instance : DecidableEq Mac := fun m n => if h : m.tup = n.tup then isTrue (Mac.tup_inj h) else isFalse (fun e => h (by rw [e]))
def Mac.cells (m : Mac) : List Value := [.int .i64 m.op, .int .i64 m.dst, .int .i64 m.a, .int .i64 m.b, .int .i64 m.n]
def rpMac : Rp Mac := (rpInt.pair (rpInt.pair (rpInt.pair (rpInt.pair rpInt)))).as_ Mac.tup
theorem rpMac_rep {w : World} {B : Nat} {m : Mac} {cs : List Value} : rpMac.rep w B m cs ↔ cs = m.cells := by
  simp [rpMac, Rp.as_, Rp.pair, rpInt, Mac.tup, Mac.cells]
theorem rpMac_size : rpMac.size = 5 := rfl
theorem SLMac_own {w : World} {B base : Nat} {e : TypeId} {v : Value} {xs : List Mac} (h : w.ownsRow base e 5 v xs.length (xs.flatMap Mac.cells)) (hB : w.heap.size ≤ B) : rpMac.SL w B xs v :=
  Rp.SL.of_own (r := rpMac) (fun _ _ _ => rpMac_rep.2 rfl) (fun _ => rfl) h hB

theorem eql_Fault (a b c d : Int) (w : World) : (binOp .eql 27 (.agg #[.int .i64 a, .int .i64 b]) (.agg #[.int .i64 c, .int .i64 d])).run Tryz.prog w = .ok (.bool (decide (a = c ∧ b = d))) w := by
  have hp : Tryz.prog.stoodInHeld 27 = false := by kernel_rfl
  have ht : Tryz.prog.underlying 27 = some (.struct (Tryz.prog.fieldsOf 27)) := by kernel_rfl
  rw [run_eql_struct, run_equalIn_agg _ _ _ _ _ ht hp]
  have h3 := Tryz.underlying3
  simp [Tryz.underlying27, go_sem, h3]
  by_cases h1 : a = c <;> by_cases h2 : b = d <;> simp [h1, h2]

theorem neq_Fault (a b c d : Int) (w : World) : (binOp .neq 27 (.agg #[.int .i64 a, .int .i64 b]) (.agg #[.int .i64 c, .int .i64 d])).run Tryz.prog w = .ok (.bool (!decide (a = c ∧ b = d))) w := by
  have hp : Tryz.prog.stoodInHeld 27 = false := by kernel_rfl
  have ht : Tryz.prog.underlying 27 = some (.struct (Tryz.prog.fieldsOf 27)) := by kernel_rfl
  rw [run_neq_struct, run_equalIn_agg _ _ _ _ _ ht hp]
  have h3 := Tryz.underlying3
  simp [Tryz.underlying27, go_sem, h3]
  by_cases h1 : a = c <;> by_cases h2 : b = d <;> simp [h1, h2]

theorem res_Fault {fn : Func} {p : Tmp} (h : fn.results = #[.cell p 27]) {tmps : Array Value} {b : Nat} {w : World} {x y : Value} (hp : tmps.getD p undef = .pointer (some ⟨b, 0, none⟩))
    (hc : w.cell? ⟨b, 0, none⟩ = some x ∧ w.cell? ⟨b, 1, none⟩ = some y) : (results fn tmps).run Tryz.prog w = .ok (.agg #[x, y]) w := by
  rw [Array.getD_eq_getD_getElem?] at hp
  simp [results, h, hp, go_sem, hc.1, hc.2]

theorem Rp.SL.mac_at {w : World} {B : Nat} {xs : List Mac} {A : Option Addr} {n c k : Nat} (h : rpMac.SL w B xs (.slice A n c)) (hk : k < xs.length) : ∃ b off m, A = some ⟨b, off, none⟩ ∧ b < B ∧ xs[k]? = some m ∧
    w.cell? ⟨b, off + k * 5, none⟩ = some (.int .i64 m.op) ∧ w.cell? ⟨b, off + k * 5 + 1, none⟩ = some (.int .i64 m.dst) ∧ w.cell? ⟨b, off + k * 5 + 2, none⟩ = some (.int .i64 m.a) ∧ w.cell? ⟨b, off + k * 5 + 3, none⟩ = some (.int .i64 m.b) ∧ w.cell? ⟨b, off + k * 5 + 4, none⟩ = some (.int .i64 m.n) := by
  obtain ⟨b, off, cs, hA, hb, hr, hcs⟩ := h.at_ (List.getElem?_eq_getElem hk)
  rw [rpMac_rep] at hr
  subst hr
  exact ⟨b, off, xs[k], hA, hb, List.getElem?_eq_getElem hk, hcs 0 _ rfl, hcs 1 _ rfl, hcs 2 _ rfl, hcs 3 _ rfl, hcs 4 _ rfl⟩
end Go.Proofs.YtcakodemngchpaaGreatDoor

/- Instructions of the machine, plainly: what may be, and what bytes tell. -/
namespace Go.Proofs.YtcakodemngchpaaGreatDoor
set_option linter.unusedSimpArgs false
set_option linter.unusedVariables false

/-- Which fields an Op speaks of: Dst, A, B; what N is (0: nothing; 1: a number; 2: an instruction; 3: a word of the frame; 4: a routine). -/
structure Shape where
  d : Bool
  a : Bool
  b : Bool
  n : Int
def shapeTab : List Shape :=
  [⟨false, false, false, 0⟩, ⟨true, false, false, 1⟩, ⟨true, true, false, 0⟩, ⟨true, true, false, 0⟩, ⟨true, true, false, 0⟩] ++
  List.replicate 14 ⟨true, true, true, 0⟩ ++ List.replicate 14 ⟨true, true, false, 1⟩ ++
  [⟨true, true, false, 1⟩, ⟨false, true, true, 1⟩, ⟨true, false, false, 3⟩, ⟨false, true, false, 3⟩, ⟨false, false, false, 2⟩, ⟨false, true, false, 2⟩, ⟨false, true, false, 2⟩] ++
  List.replicate 4 ⟨false, true, true, 2⟩ ++ [⟨false, false, false, 4⟩, ⟨false, false, false, 0⟩, ⟨true, false, false, 0⟩, ⟨false, true, false, 0⟩]
def shapeOf (op : Int) : Shape := if 1 ≤ op ∧ op ≤ 47 then shapeTab.getD op.toNat ⟨false, false, false, 0⟩ else ⟨false, false, false, 0⟩
def known (op : Int) : Bool := decide (1 ≤ op ∧ op ≤ 47)

/-- What is wrong with a field of a register; with the number. -/
def fieldF (used : Bool) (r : Int) : Int := if used then (if r < 0 ∨ 15 < r then 3 else 0) else if r ≠ 0 then 5 else 0
def numberF (kind n many : Int) : Int :=
  if kind = 1 then 0 else if kind = 0 then (if n ≠ 0 then 5 else 0) else if kind = 4 then (if n < 0 then 3 else 0)
  else if n < 0 ∨ (if kind = 3 then 120 else many) ≤ n then 3 else 0
def macF (m : Mac) (many : Int) : Int :=
  if known m.op = false then 4 else
  let s := shapeOf m.op
  if fieldF s.d m.dst = 3 ∨ fieldF s.a m.a = 3 ∨ fieldF s.b m.b = 3 ∨ numberF s.n m.n many = 3 then 3
  else if fieldF s.d m.dst = 5 ∨ fieldF s.a m.a = 5 ∨ fieldF s.b m.b = 5 ∨ numberF s.n m.n many = 5 then 5 else 0
def macsFrom (l : List Mac) : Nat → Nat → Int × Int
  | 0, _ => if ((l.getD (l.length - 1) ⟨0, 0, 0, 0, 0⟩).op = 37 ∨ (l.getD (l.length - 1) ⟨0, 0, 0, 0, 0⟩).op = 45) then (0, 0) else (5, (l.length : Int) - 1)
  | m + 1, i => if macF (l.getD i ⟨0, 0, 0, 0, 0⟩) l.length ≠ 0 then (macF (l.getD i ⟨0, 0, 0, 0, 0⟩) l.length, (i : Int)) else macsFrom l m (i + 1)
def macsFault (l : List Mac) : Int × Int := if 5000 < l.length then (2, 0) else if l = [] then (5, 0) else macsFrom l l.length 0

/-- A number that stands ahead, in as few bytes as can be. -/
def numL : Nat → Nat → Nat → List UInt8 → Option (Nat × List UInt8)
  | 0, _, _, _ => none
  | _ + 1, _, _, [] => none
  | f + 1, i, acc, b :: bs =>
    if (i = 9 ∧ 1 < b.toNat) ∨ (0 < i ∧ b.toNat = 0) then none
    else if b.toNat < 128 then some (acc + b.toNat * 2 ^ (7 * i), bs)
    else numL f (i + 1) (acc + (b.toNat - 128) * 2 ^ (7 * i)) bs
def numberL (bs : List UInt8) : Option (Nat × List UInt8) := numL 10 0 0 bs
def unfoldN (n : Nat) : Int := if n % 2 = 1 then -((n / 2 : Nat) : Int) - 1 else ((n / 2 : Nat) : Int)

/-- So many registers that stand ahead. -/
def regsL : Nat → List UInt8 → Option (List Int × List UInt8)
  | 0, bs => some ([], bs)
  | 1, b :: bs => if 15 < b.toNat then none else some ([(b.toNat : Int)], bs)
  | n + 2, b :: bs => (regsL n bs).map fun r => (((b.toNat / 16 : Nat) : Int) :: ((b.toNat % 16 : Nat) : Int) :: r.1, r.2)
  | _, [] => none
def Shape.many (s : Shape) : Nat := s.d.toNat + s.a.toNat + s.b.toNat
def placeRegs (s : Shape) (op : Int) (regs : List Int) (n : Int) : Mac :=
  ⟨op, if s.d then regs.getD 0 0 else 0, if s.a then regs.getD s.d.toNat 0 else 0, if s.b then regs.getD (s.d.toNat + s.a.toNat) 0 else 0, n⟩
def macL : List UInt8 → Option (Mac × List UInt8)
  | [] => none
  | b :: bs => if known b.toNat = false then none else
    (regsL (shapeOf b.toNat).many bs).bind fun r =>
      if (shapeOf b.toNat).n = 0 then some (placeRegs (shapeOf b.toNat) b.toNat r.1 0, r.2)
      else (numberL r.2).map fun x => (placeRegs (shapeOf b.toNat) b.toNat r.1 (unfoldN x.1), x.2)
def macsL : Nat → List UInt8 → Option (List Mac)
  | _, [] => some []
  | 0, _ :: _ => none
  | f + 1, b :: bs => (macL (b :: bs)).bind fun r => (macsL f r.2).map fun l => r.1 :: l
def readL (bs : List UInt8) : Option (List Mac) :=
  if 70000 < bs.length then none else (macsL bs.length bs).bind fun l => if macsFault l = (0, 0) then some l else none

theorem numL_short : ∀ (f i acc : Nat) (bs : List UInt8) (n : Nat) (r : List UInt8), numL f i acc bs = some (n, r) → r.length < bs.length
  | 0, _, _, _, _, _, h => by cases h
  | _ + 1, _, _, [], _, _, h => by cases h
  | f + 1, i, acc, b :: bs, n, r, h => by
    unfold numL at h
    split at h
    · cases h
    split at h
    · obtain ⟨_, rfl⟩ := Prod.mk.inj (Option.some.inj h); simp
    · have := numL_short f _ _ _ _ _ h
      simp; omega
theorem regsL_short : ∀ (k : Nat) (bs : List UInt8) (l : List Int) (r : List UInt8), regsL k bs = some (l, r) → r.length ≤ bs.length ∧ l.length = k
  | 0, bs, l, r, h => by
    unfold regsL at h
    obtain ⟨rfl, rfl⟩ := Prod.mk.inj (Option.some.inj h)
    exact ⟨Nat.le_refl _, rfl⟩
  | 1, [], l, r, h => by simp [regsL] at h
  | n + 2, [], l, r, h => by simp [regsL] at h
  | 1, b :: bs, l, r, h => by
    unfold regsL at h
    split at h
    · cases h
    · obtain ⟨rfl, rfl⟩ := Prod.mk.inj (Option.some.inj h)
      exact ⟨by simp, rfl⟩
  | n + 2, b :: bs, l, r, h => by
    unfold regsL at h
    rw [Option.map_eq_some_iff] at h
    obtain ⟨⟨l', r'⟩, h1, h2⟩ := h
    obtain ⟨rfl, rfl⟩ := Prod.mk.inj h2
    have := regsL_short n bs _ _ h1
    exact ⟨by simp; omega, by simp [this.2]⟩
theorem macL_short {bs : List UInt8} {m : Mac} {r : List UInt8} (h : macL bs = some (m, r)) : r.length < bs.length := by
  cases bs with
  | nil => cases h
  | cons b bs =>
    rw [macL] at h
    split at h
    · cases h
    rw [Option.bind_eq_some_iff] at h
    obtain ⟨⟨l, r'⟩, h1, h2⟩ := h
    have s1 := (regsL_short _ _ _ _ h1).1
    split at h2
    · obtain ⟨_, rfl⟩ := Prod.mk.inj (Option.some.inj h2); simp; omega
    · rw [Option.map_eq_some_iff] at h2
      obtain ⟨⟨x, r''⟩, h3, h4⟩ := h2
      obtain ⟨_, rfl⟩ := Prod.mk.inj h4
      have := numL_short _ _ _ _ _ _ h3
      simp at this ⊢; omega
end Go.Proofs.YtcakodemngchpaaGreatDoor

/- Objects, plainly: what may be. -/
namespace Go.Proofs.YtcakodemngchpaaGreatDoor
open Go.RowKit
set_option linter.unusedSimpArgs false
set_option linter.unusedVariables false

structure Mend where
  at_ : Int
  name : ByteArray
structure Section where
  name : ByteArray
  code : List UInt8
  mends : List Mend
structure Global where
  name : ByteArray
  size : Int
  init : List Int
structure Object where
  globals : List Global
  sections : List Section
def rpMend : Rp Mend := (rpInt.pair rpStr).as_ fun m => (m.at_, m.name)
def rpSection : Rp Section := (rpStr.pair (rpByte.slice.pair rpMend.slice)).as_ fun s => (s.name, s.code, s.mends)
def rpGlobal : Rp Global := (rpStr.pair (rpInt.pair rpInt.slice)).as_ fun g => (g.name, g.size, g.init)
def rpObject : Rp Object := (rpGlobal.slice.pair rpSection.slice).as_ fun o => (o.globals, o.sections)

/-- May a byte stand at a place of a name? -/
def letterOk (i : Nat) (c : UInt8) : Bool :=
  decide ((97 ≤ c.toNat ∧ c.toNat ≤ 122) ∨ (65 ≤ c.toNat ∧ c.toNat ≤ 90) ∨ c.toNat = 95 ∨ (0 < i ∧ 48 ≤ c.toNat ∧ c.toNat ≤ 57))
def nameFrom (s : ByteArray) : Nat → Nat → Bool
  | 0, _ => true
  | m + 1, i => letterOk i (s.get! i) && nameFrom s m (i + 1)
def goodName (s : ByteArray) : Bool := decide (1 ≤ s.size ∧ s.size ≤ 12) && nameFrom s s.size 0

def globFrom (l : List Global) : Nat → Nat → Int → Int × Int
  | 0, _, _ => (0, 0)
  | m + 1, i, sum =>
    match l[i]? with
    | none => (0, 0)
    | some g =>
      if goodName g.name = false then (12, (i : Int))
      else if (l.take i).any (fun o => decide (o.name = g.name)) = true then (7, (i : Int))
      else if g.size < 1 ∨ 200 < g.size then (3, (i : Int))
      else if g.size < g.init.length then (9, (i : Int))
      else if 200 < sum + g.size then (10, (i : Int))
      else globFrom l m (i + 1) (sum + g.size)
def globFault (l : List Global) : Int × Int := if 10 < l.length then (2, 0) else globFrom l l.length 0 0

def mendsFrom (l : List Mac) (ms : List Mend) : Nat → Nat → Int
  | 0, _ => if ((l.filter fun m => m.op == 44).length = ms.length) then 0 else 9
  | f + 1, i =>
    match ms[i]? with
    | none => 0
    | some m =>
      if m.at_ < 0 ∨ (l.length : Int) ≤ m.at_ then 3
      else if (l.getD m.at_.toNat ⟨0, 0, 0, 0, 0⟩).op ≠ 44 then 4
      else if (l.getD m.at_.toNat ⟨0, 0, 0, 0, 0⟩).n ≠ 0 ∨ (0 < i ∧ m.at_ ≤ (ms.getD (i - 1) ⟨0, ByteArray.empty⟩).at_) then 5
      else if goodName m.name = false then 12
      else mendsFrom l ms f (i + 1)
def secF (s : Section) : Int := match readL s.code with
  | none => 1
  | some l => mendsFrom l s.mends s.mends.length 0

def secsFrom (o : Object) : Nat → Nat → Int × Int
  | 0, _ => (0, 0)
  | f + 1, i =>
    match o.sections[i]? with
    | none => (0, 0)
    | some s =>
      if goodName s.name = false then (12, (i : Int))
      else if (o.globals.any (fun g => decide (g.name = s.name)) || (o.sections.take i).any (fun t => decide (t.name = s.name))) = true then (7, (i : Int))
      else if secF s ≠ 0 then (secF s, (i : Int))
      else secsFrom o f (i + 1)
def objFault (o : Object) : Int × Int :=
  if (globFault o.globals).1 ≠ 0 then globFault o.globals else if 40 < o.sections.length then (2, 0) else secsFrom o o.sections.length 0

/-! ### What the three words say -/
theorem rpMend_rep {w : World} {B : Nat} {m : Mend} {cs : List Value} : rpMend.rep w B m cs ↔ cs = [.int .i64 m.at_, .string m.name] := by
  simp [rpMend, Rp.as_, Rp.pair, rpInt, rpStr]
theorem rpSection_rep {w : World} {B : Nat} {s : Section} {cs : List Value} (h : rpSection.rep w B s cs) : ∃ v1 v2, cs = [.string s.name, v1, v2] ∧ rpByte.SL w B s.code v1 ∧ rpMend.SL w B s.mends v2 := by
  obtain ⟨c1, c2, rfl, rfl, c3, c4, rfl, ⟨v1, rfl, h1⟩, v2, rfl, h2⟩ := h
  exact ⟨v1, v2, rfl, h1, h2⟩
theorem rpGlobal_rep {w : World} {B : Nat} {g : Global} {cs : List Value} (h : rpGlobal.rep w B g cs) : ∃ v1, cs = [.string g.name, .int .i64 g.size, v1] ∧ rpInt.SL w B g.init v1 := by
  obtain ⟨c1, c2, rfl, rfl, c3, c4, rfl, rfl, v1, rfl, h1⟩ := h
  exact ⟨v1, rfl, h1⟩
theorem rpObject_rep {w : World} {B : Nat} {o : Object} {cs : List Value} (h : rpObject.rep w B o cs) : ∃ v1 v2, cs = [v1, v2] ∧ rpGlobal.SL w B o.globals v1 ∧ rpSection.SL w B o.sections v2 := by
  obtain ⟨c1, c2, rfl, ⟨v1, rfl, h1⟩, v2, rfl, h2⟩ := h
  exact ⟨v1, v2, rfl, h1, h2⟩
theorem rpGlobal_size : rpGlobal.size = 3 := rfl
theorem Rp.SL.mend_at {w : World} {B : Nat} {xs : List Mend} {A : Option Addr} {n c k : Nat} (h : rpMend.SL w B xs (.slice A n c)) (hk : k < xs.length) : ∃ b off m, A = some ⟨b, off, none⟩ ∧ b < B ∧ xs[k]? = some m ∧
    w.cell? ⟨b, off + k * 2, none⟩ = some (.int .i64 m.at_) ∧ w.cell? ⟨b, off + k * 2 + 1, none⟩ = some (.string m.name) := by
  obtain ⟨b, off, cs, hA, hb, hr, hcs⟩ := h.at_ (List.getElem?_eq_getElem hk)
  rw [rpMend_rep] at hr
  subst hr
  exact ⟨b, off, xs[k], hA, hb, List.getElem?_eq_getElem hk, hcs 0 _ rfl, hcs 1 _ rfl⟩
theorem Rp.SL.section_at {w : World} {B : Nat} {xs : List Section} {A : Option Addr} {n c k : Nat} (h : rpSection.SL w B xs (.slice A n c)) (hk : k < xs.length) : ∃ b off s v1 v2, A = some ⟨b, off, none⟩ ∧ b < B ∧ xs[k]? = some s ∧ rpByte.SL w B s.code v1 ∧ rpMend.SL w B s.mends v2 ∧
    w.cell? ⟨b, off + k * 3, none⟩ = some (.string s.name) ∧ w.cell? ⟨b, off + k * 3 + 1, none⟩ = some v1 ∧ w.cell? ⟨b, off + k * 3 + 2, none⟩ = some v2 := by
  obtain ⟨b, off, cs, hA, hb, hr, hcs⟩ := h.at_ (List.getElem?_eq_getElem hk)
  obtain ⟨v1, v2, rfl, h1, h2⟩ := rpSection_rep hr
  exact ⟨b, off, xs[k], v1, v2, hA, hb, List.getElem?_eq_getElem hk, h1, h2, hcs 0 _ rfl, hcs 1 _ rfl, hcs 2 _ rfl⟩
theorem Rp.SL.global_at {w : World} {B : Nat} {xs : List Global} {A : Option Addr} {n c k : Nat} (h : rpGlobal.SL w B xs (.slice A n c)) (hk : k < xs.length) : ∃ b off g v1, A = some ⟨b, off, none⟩ ∧ b < B ∧ xs[k]? = some g ∧ rpInt.SL w B g.init v1 ∧
    w.cell? ⟨b, off + k * 3, none⟩ = some (.string g.name) ∧ w.cell? ⟨b, off + k * 3 + 1, none⟩ = some (.int .i64 g.size) ∧ w.cell? ⟨b, off + k * 3 + 2, none⟩ = some v1 := by
  obtain ⟨b, off, cs, hA, hb, hr, hcs⟩ := h.at_ (List.getElem?_eq_getElem hk)
  obtain ⟨v1, rfl, h1⟩ := rpGlobal_rep hr
  exact ⟨b, off, xs[k], v1, hA, hb, List.getElem?_eq_getElem hk, h1, hcs 0 _ rfl, hcs 1 _ rfl, hcs 2 _ rfl⟩
end Go.Proofs.YtcakodemngchpaaGreatDoor

/- Lists of instructions that bytes tell, plainly. -/
namespace Go.Proofs.YtcakodemngchpaaGreatDoor
set_option linter.unusedSimpArgs false
set_option linter.unusedVariables false

theorem macsL_more : ∀ (f g : Nat) (bs : List UInt8), bs.length ≤ f → bs.length ≤ g → macsL f bs = macsL g bs
  | f, g, [], _, _ => by cases f <;> cases g <;> rfl
  | 0, _, b :: bs, h, _ => by simp at h
  | _, 0, b :: bs, _, h => by simp at h
  | f + 1, g + 1, b :: bs, hf, hg => by
    rw [macsL, macsL]
    cases hm : macL (b :: bs) with
    | none => rfl
    | some r =>
      have hs := macL_short (m := r.1) (r := r.2) hm
      simp only [Option.bind_some]
      simp only [List.length_cons] at hs hf hg
      rw [macsL_more f g r.2 (by omega) (by omega)]
def macsAll (bs : List UInt8) : Option (List Mac) := macsL bs.length bs
theorem macsAll_nil : macsAll [] = some [] := rfl
theorem macsAll_step {bs : List UInt8} (h : bs ≠ []) : macsAll bs = (macL bs).bind fun r => (macsAll r.2).map fun l => r.1 :: l := by
  cases bs with
  | nil => exact absurd rfl h
  | cons b bs =>
    rw [macsAll, List.length_cons, macsL]
    cases hm : macL (b :: bs) with
    | none => rfl
    | some r =>
      have hs := macL_short (m := r.1) (r := r.2) hm
      simp only [List.length_cons] at hs
      simp only [Option.bind_some]
      rw [macsAll, macsL_more bs.length r.2.length r.2 (by omega) (by omega)]
theorem readL_eq (bs : List UInt8) : readL bs = if 70000 < bs.length then none else (macsAll bs).bind fun l => if macsFault l = (0, 0) then some l else none := rfl
theorem macsFrom_zero (l : List Mac) : ∀ (f i : Nat), (macsFrom l f i).1 = 0 → macsFrom l f i = (0, 0)
  | 0, i, h => by
    rw [macsFrom] at h ⊢
    split
    · rfl
    · rename_i hn
      rw [if_neg hn] at h
      simp at h
  | f + 1, i, h => by
    rw [macsFrom] at h ⊢
    split
    · rename_i hn
      rw [if_pos hn] at h
      exact absurd h hn
    · rename_i hn
      rw [if_neg hn] at h
      exact macsFrom_zero l f (i + 1) h
theorem macsFault_zero (l : List Mac) (h : (macsFault l).1 = 0) : macsFault l = (0, 0) := by
  unfold macsFault at h ⊢
  split
  · rename_i hn
    rw [if_pos hn] at h
    simp at h
  · rename_i hn
    rw [if_neg hn] at h
    split
    · rename_i hn
      rw [if_pos hn] at h
      simp at h
    · rename_i hn
      rw [if_neg hn] at h
      exact macsFrom_zero l _ _ h
/-- So far read; what is left. -/
theorem macs_some {bs rest r : List UInt8} {done : List Mac} {m : Mac} (h : (macsAll rest).map (fun l => done ++ l) = macsAll bs) (hm : macL rest = some (m, r)) : (macsAll r).map (fun l => (done ++ [m]) ++ l) = macsAll bs := by
  have hne : rest ≠ [] := by rintro rfl; cases hm
  rw [← h, macsAll_step hne, hm]
  simp only [Option.bind_some, Option.map_map]
  congr 1
  funext l
  simp
theorem macs_none {bs rest : List UInt8} {done : List Mac} (h : (macsAll rest).map (fun l => done ++ l) = macsAll bs) (hr : rest ≠ []) (hm : macL rest = none) : readL bs = none := by
  rw [macsAll_step hr, hm] at h
  rw [readL_eq, ← h]
  split <;> rfl
theorem macs_end {bs : List UInt8} {done : List Mac} (h : (macsAll []).map (fun l => done ++ l) = macsAll bs) (hl : ¬ 70000 < bs.length) : readL bs = if macsFault done = (0, 0) then some done else none := by
  rw [readL_eq, if_neg hl, ← h, macsAll_nil]
  simp
end Go.Proofs.YtcakodemngchpaaGreatDoor

/- Is there a thing of a name in a list: slices.ContainsFunc, its closures. -/
namespace Go.Proofs.YtcakodemngchpaaGreatDoor
open Go.RowKit
set_option linter.unusedSimpArgs false
set_option linter.unusedVariables false

theorem name_eq (a b : ByteArray) : (a.toList == b.toList) = decide (a = b) := by
  by_cases h : a = b
  · subst h; simp
  · rw [decide_eq_false h]
    apply beq_false_of_ne
    intro e
    exact h (ByteArray.ext (by simpa [ByteArray.toList_eq] using e))
theorem any_step {α : Type} (p : α → Bool) {l : List α} {k : Nat} {x : α} (h : l[k]? = some x) : (l.take (k + 1)).any p = ((l.take k).any p || p x) := by
  have hk := (List.getElem?_eq_some_iff.1 h)
  obtain ⟨hk, e⟩ := hk
  rw [List.take_succ_eq_append_getElem hk, List.any_append, e]
  simp
theorem any_of_take {α : Type} (p : α → Bool) {l : List α} {k : Nat} (h : (l.take k).any p = true) : l.any p = true := by
  rw [List.any_eq_true] at h ⊢
  obtain ⟨x, hx, hp⟩ := h
  exact ⟨x, List.mem_of_mem_take hx, hp⟩
def hasG (l : List Global) (nm : ByteArray) : Bool := l.any fun g => decide (g.name = nm)
def hasS (l : List Section) (nm : ByteArray) : Bool := l.any fun g => decide (g.name = nm)

set_option maxHeartbeats 1000000 in
theorem closGM_calls (n : ByteArray) (z : Int) (v : Value) (nm : ByteArray) (M : Nat) (w : World) (hM : M < w.heap.size) (hc : w.cell? ⟨M, 0, none⟩ = some (.string nm)) (R : Ending → World → Prop)
    (hR : ∀ w', Below w.heap.size w w' → R (.returned (.bool (decide (n = nm)))) w') :
    Calls Tryz.prog 85 #[.agg #[.string n, .int .i64 z, v], .pointer (some ⟨M, 0, none⟩)] w R := by
  have HR := Lib.hid hR
  clear hR
  go_enter Tryz.func85, Tryz.ntmps85
  go_wp2
  rw [name_eq]
  exact HR.out _ bl0
set_option maxHeartbeats 1000000 in
theorem indexGM_calls (v : Value) (xs : List Global) (nm : ByteArray) (M : Nat) (w : World) (h : rpGlobal.SL w w.heap.size xs v) (hc : w.cell? ⟨M, 0, none⟩ = some (.string nm)) (R : Ending → World → Prop)
    (hR : ∀ w' r, Below w.heap.size w w' → (decide ((0 : Int) ≤ r) = hasG xs nm) → R (.returned (.int .i64 r)) w') :
    Calls Tryz.prog 87 #[v, .func (.func 85) #[] #[.pointer (some ⟨M, 0, none⟩)]] w R := by
  have hM : M < w.heap.size := World.block_lt_of_cell? w _ hc
  obtain ⟨A, c, rfl, hm, hcap, hs⟩ := h.cases_
  have Hs := Lib.hid hs
  have HR := Lib.hid hR
  have Hc := Lib.hid hc
  clear hR h hs hc
  go_enter Tryz.func87, Tryz.ntmps87
  go_wp2
  go_loopg [5, 8] xs.length (fun g j i wr => ∃ k : Nat, k ≤ xs.length ∧ g = xs.length - k ∧ i = .int .i64 k ∧ hasG (xs.take k) nm = false ∧ Below w.heap.size w wr)
  case atStart => exact ⟨0, Nat.zero_le _, rfl, rfl, rfl, Below.refl _ _⟩
  case round =>
    obtain ⟨k, hk, rfl, rfl, ht, hbel⟩ := hrel
    have Ht := Lib.hid ht
    have Hb := Lib.hid hbel
    have hz := hbel.size
    clear ht
    by_cases hlt : k < xs.length
    · obtain ⟨b, off, g, v1, rfl, hb, e, h1, q0, q1, q2⟩ := Hs.out.global_at hlt
      have p0 := (hbel.cell (p := ⟨b, off + k * 3, none⟩) hb).trans q0
      have p1 := (hbel.cell (p := ⟨b, off + k * 3 + 1, none⟩) hb).trans q1
      have p2 := (hbel.cell (p := ⟨b, off + k * 3 + 2, none⟩) hb).trans q2
      have pm := Lib.hid ((hbel.cell (p := ⟨M, 0, none⟩) hM).trans Hc.out)
      have Hst : Hid (hasG (xs.take (k + 1)) nm = decide (g.name = nm)) := Lib.hid (by
        have := any_step (fun g : Global => decide (g.name = nm)) e
        unfold hasG
        rw [this]
        have h0 := Ht.out
        unfold hasG at h0
        rw [h0, Bool.false_or])
      have i1 : (0 : Int) ≤ (k : Int) := Int.natCast_nonneg _
      have i2 : (k : Int) < (xs.length : Int) := by omega
      clear q0 q1 q2 e hbel
      go_wp2_with fail
      refine closGM_calls _ _ _ nm M _ (by omega) pm.out _ (fun w1 hb1 => ?_)
      have hb2 := Hb.out.trans (hb1.mono hz)
      have Hb2 := Lib.hid hb2
      clear hb1 hb2
      generalize hx : decide (g.name = nm) = x at *
      have Hx := Lib.hid hx
      clear hx
      cases x
      · go_wp2
        go_roundg (xs.length - (k + 1))
        case measure => omega
        case rel => exact ⟨k + 1, hlt, rfl, by go_num, Hst.out, Hb2.out⟩
      · have hfin := Lib.hid (HR.out)
        go_wp2
        refine hfin.out _ _ Hb2.out ?_
        rw [hasG, any_of_take _ Hst.out]
        exact decide_eq_true i1
    · obtain rfl : k = xs.length := by omega
      rw [List.take_length] at Ht
      have Hb2 := Lib.hid hbel
      clear hbel
      go_wp2
      refine HR.out _ _ Hb2.out ?_
      rw [Ht.out]
      rfl
set_option maxHeartbeats 1000000 in
theorem containsGM_calls (v : Value) (xs : List Global) (nm : ByteArray) (M : Nat) (w : World) (h : rpGlobal.SL w w.heap.size xs v) (hc : w.cell? ⟨M, 0, none⟩ = some (.string nm)) (R : Ending → World → Prop)
    (hR : ∀ w', Below w.heap.size w w' → R (.returned (.bool (hasG xs nm))) w') :
    Calls Tryz.prog 54 #[v, .func (.func 85) #[] #[.pointer (some ⟨M, 0, none⟩)]] w R := by
  have HR := Lib.hid hR
  clear hR
  go_enter Tryz.func54, Tryz.ntmps54
  go_wp2_with fail
  refine indexGM_calls v xs nm M _ h hc _ (fun w1 r hb1 hr => ?_)
  have Hf := Lib.hid (HR.out _ hb1)
  have Hr := Lib.hid hr
  clear hr hb1 h
  go_wp2
  rw [Hr.out]
  exact Hf.out
set_option maxHeartbeats 1000000 in
theorem closGO_calls (n : ByteArray) (z : Int) (v : Value) (nm : ByteArray) (M : Nat) (w : World) (hM : M < w.heap.size) (hc : w.cell? ⟨M, 0, none⟩ = some (.string nm)) (R : Ending → World → Prop)
    (hR : ∀ w', Below w.heap.size w w' → R (.returned (.bool (decide (n = nm)))) w') :
    Calls Tryz.prog 55 #[.agg #[.string n, .int .i64 z, v], .pointer (some ⟨M, 0, none⟩)] w R := by
  have HR := Lib.hid hR
  clear hR
  go_enter Tryz.func55, Tryz.ntmps55
  go_wp2
  rw [name_eq]
  exact HR.out _ bl0
set_option maxHeartbeats 1000000 in
theorem indexGO_calls (v : Value) (xs : List Global) (nm : ByteArray) (M : Nat) (w : World) (h : rpGlobal.SL w w.heap.size xs v) (hc : w.cell? ⟨M, 0, none⟩ = some (.string nm)) (R : Ending → World → Prop)
    (hR : ∀ w' r, Below w.heap.size w w' → (decide ((0 : Int) ≤ r) = hasG xs nm) → R (.returned (.int .i64 r)) w') :
    Calls Tryz.prog 87 #[v, .func (.func 55) #[] #[.pointer (some ⟨M, 0, none⟩)]] w R := by
  have hM : M < w.heap.size := World.block_lt_of_cell? w _ hc
  obtain ⟨A, c, rfl, hm, hcap, hs⟩ := h.cases_
  have Hs := Lib.hid hs
  have HR := Lib.hid hR
  have Hc := Lib.hid hc
  clear hR h hs hc
  go_enter Tryz.func87, Tryz.ntmps87
  go_wp2
  go_loopg [5, 8] xs.length (fun g j i wr => ∃ k : Nat, k ≤ xs.length ∧ g = xs.length - k ∧ i = .int .i64 k ∧ hasG (xs.take k) nm = false ∧ Below w.heap.size w wr)
  case atStart => exact ⟨0, Nat.zero_le _, rfl, rfl, rfl, Below.refl _ _⟩
  case round =>
    obtain ⟨k, hk, rfl, rfl, ht, hbel⟩ := hrel
    have Ht := Lib.hid ht
    have Hb := Lib.hid hbel
    have hz := hbel.size
    clear ht
    by_cases hlt : k < xs.length
    · obtain ⟨b, off, g, v1, rfl, hb, e, h1, q0, q1, q2⟩ := Hs.out.global_at hlt
      have p0 := (hbel.cell (p := ⟨b, off + k * 3, none⟩) hb).trans q0
      have p1 := (hbel.cell (p := ⟨b, off + k * 3 + 1, none⟩) hb).trans q1
      have p2 := (hbel.cell (p := ⟨b, off + k * 3 + 2, none⟩) hb).trans q2
      have pm := Lib.hid ((hbel.cell (p := ⟨M, 0, none⟩) hM).trans Hc.out)
      have Hst : Hid (hasG (xs.take (k + 1)) nm = decide (g.name = nm)) := Lib.hid (by
        have := any_step (fun g : Global => decide (g.name = nm)) e
        unfold hasG
        rw [this]
        have h0 := Ht.out
        unfold hasG at h0
        rw [h0, Bool.false_or])
      have i1 : (0 : Int) ≤ (k : Int) := Int.natCast_nonneg _
      have i2 : (k : Int) < (xs.length : Int) := by omega
      clear q0 q1 q2 e hbel
      go_wp2_with fail
      refine closGO_calls _ _ _ nm M _ (by omega) pm.out _ (fun w1 hb1 => ?_)
      have hb2 := Hb.out.trans (hb1.mono hz)
      have Hb2 := Lib.hid hb2
      clear hb1 hb2
      generalize hx : decide (g.name = nm) = x at *
      have Hx := Lib.hid hx
      clear hx
      cases x
      · go_wp2
        go_roundg (xs.length - (k + 1))
        case measure => omega
        case rel => exact ⟨k + 1, hlt, rfl, by go_num, Hst.out, Hb2.out⟩
      · have hfin := Lib.hid (HR.out)
        go_wp2
        refine hfin.out _ _ Hb2.out ?_
        rw [hasG, any_of_take _ Hst.out]
        exact decide_eq_true i1
    · obtain rfl : k = xs.length := by omega
      rw [List.take_length] at Ht
      have Hb2 := Lib.hid hbel
      clear hbel
      go_wp2
      refine HR.out _ _ Hb2.out ?_
      rw [Ht.out]
      rfl
set_option maxHeartbeats 1000000 in
theorem containsGO_calls (v : Value) (xs : List Global) (nm : ByteArray) (M : Nat) (w : World) (h : rpGlobal.SL w w.heap.size xs v) (hc : w.cell? ⟨M, 0, none⟩ = some (.string nm)) (R : Ending → World → Prop)
    (hR : ∀ w', Below w.heap.size w w' → R (.returned (.bool (hasG xs nm))) w') :
    Calls Tryz.prog 54 #[v, .func (.func 55) #[] #[.pointer (some ⟨M, 0, none⟩)]] w R := by
  have HR := Lib.hid hR
  clear hR
  go_enter Tryz.func54, Tryz.ntmps54
  go_wp2_with fail
  refine indexGO_calls v xs nm M _ h hc _ (fun w1 r hb1 hr => ?_)
  have Hf := Lib.hid (HR.out _ hb1)
  have Hr := Lib.hid hr
  clear hr hb1 h
  go_wp2
  rw [Hr.out]
  exact Hf.out
set_option maxHeartbeats 1000000 in
theorem closSO_calls (n : ByteArray) (z v : Value) (nm : ByteArray) (M : Nat) (w : World) (hM : M < w.heap.size) (hc : w.cell? ⟨M, 0, none⟩ = some (.string nm)) (R : Ending → World → Prop)
    (hR : ∀ w', Below w.heap.size w w' → R (.returned (.bool (decide (n = nm)))) w') :
    Calls Tryz.prog 56 #[.agg #[.string n, z, v], .pointer (some ⟨M, 0, none⟩)] w R := by
  have HR := Lib.hid hR
  clear hR
  go_enter Tryz.func56, Tryz.ntmps56
  go_wp2
  rw [name_eq]
  exact HR.out _ bl0
set_option maxHeartbeats 1000000 in
theorem indexSO_calls (v : Value) (xs : List Section) (nm : ByteArray) (M : Nat) (w : World) (h : rpSection.SL w w.heap.size xs v) (hc : w.cell? ⟨M, 0, none⟩ = some (.string nm)) (R : Ending → World → Prop)
    (hR : ∀ w' r, Below w.heap.size w w' → (decide ((0 : Int) ≤ r) = hasS xs nm) → R (.returned (.int .i64 r)) w') :
    Calls Tryz.prog 72 #[v, .func (.func 56) #[] #[.pointer (some ⟨M, 0, none⟩)]] w R := by
  have hM : M < w.heap.size := World.block_lt_of_cell? w _ hc
  obtain ⟨A, c, rfl, hm, hcap, hs⟩ := h.cases_
  have Hs := Lib.hid hs
  have HR := Lib.hid hR
  have Hc := Lib.hid hc
  clear hR h hs hc
  go_enter Tryz.func72, Tryz.ntmps72
  go_wp2
  go_loopg [5, 8] xs.length (fun g j i wr => ∃ k : Nat, k ≤ xs.length ∧ g = xs.length - k ∧ i = .int .i64 k ∧ hasS (xs.take k) nm = false ∧ Below w.heap.size w wr)
  case atStart => exact ⟨0, Nat.zero_le _, rfl, rfl, rfl, Below.refl _ _⟩
  case round =>
    obtain ⟨k, hk, rfl, rfl, ht, hbel⟩ := hrel
    have Ht := Lib.hid ht
    have Hb := Lib.hid hbel
    have hz := hbel.size
    clear ht
    by_cases hlt : k < xs.length
    · obtain ⟨b, off, g, v1, v2, rfl, hb, e, h1, h2, q0, q1, q2⟩ := Hs.out.section_at hlt
      have p0 := (hbel.cell (p := ⟨b, off + k * 3, none⟩) hb).trans q0
      have p1 := (hbel.cell (p := ⟨b, off + k * 3 + 1, none⟩) hb).trans q1
      have p2 := (hbel.cell (p := ⟨b, off + k * 3 + 2, none⟩) hb).trans q2
      have pm := Lib.hid ((hbel.cell (p := ⟨M, 0, none⟩) hM).trans Hc.out)
      have Hst : Hid (hasS (xs.take (k + 1)) nm = decide (g.name = nm)) := Lib.hid (by
        have := any_step (fun g : Section => decide (g.name = nm)) e
        unfold hasS
        rw [this]
        have h0 := Ht.out
        unfold hasS at h0
        rw [h0, Bool.false_or])
      have i1 : (0 : Int) ≤ (k : Int) := Int.natCast_nonneg _
      have i2 : (k : Int) < (xs.length : Int) := by omega
      clear q0 q1 q2 e hbel
      go_wp2_with fail
      refine closSO_calls _ _ _ nm M _ (by omega) pm.out _ (fun w1 hb1 => ?_)
      have hb2 := Hb.out.trans (hb1.mono hz)
      have Hb2 := Lib.hid hb2
      clear hb1 hb2
      generalize hx : decide (g.name = nm) = x at *
      have Hx := Lib.hid hx
      clear hx
      cases x
      · go_wp2
        go_roundg (xs.length - (k + 1))
        case measure => omega
        case rel => exact ⟨k + 1, hlt, rfl, by go_num, Hst.out, Hb2.out⟩
      · have hfin := Lib.hid (HR.out)
        go_wp2
        refine hfin.out _ _ Hb2.out ?_
        rw [hasS, any_of_take _ Hst.out]
        exact decide_eq_true i1
    · obtain rfl : k = xs.length := by omega
      rw [List.take_length] at Ht
      have Hb2 := Lib.hid hbel
      clear hbel
      go_wp2
      refine HR.out _ _ Hb2.out ?_
      rw [Ht.out]
      rfl
set_option maxHeartbeats 1000000 in
theorem containsSO_calls (v : Value) (xs : List Section) (nm : ByteArray) (M : Nat) (w : World) (h : rpSection.SL w w.heap.size xs v) (hc : w.cell? ⟨M, 0, none⟩ = some (.string nm)) (R : Ending → World → Prop)
    (hR : ∀ w', Below w.heap.size w w' → R (.returned (.bool (hasS xs nm))) w') :
    Calls Tryz.prog 39 #[v, .func (.func 56) #[] #[.pointer (some ⟨M, 0, none⟩)]] w R := by
  have HR := Lib.hid hR
  clear hR
  go_enter Tryz.func39, Tryz.ntmps39
  go_wp2_with fail
  refine indexSO_calls v xs nm M _ h hc _ (fun w1 r hb1 hr => ?_)
  have Hf := Lib.hid (HR.out _ hb1)
  have Hr := Lib.hid hr
  clear hr hb1 h
  go_wp2
  rw [Hr.out]
  exact Hf.out
end Go.Proofs.YtcakodemngchpaaGreatDoor

/- Objects that may be, plainly. -/
namespace Go.Proofs.YtcakodemngchpaaGreatDoor
open Go.RowKit
set_option linter.unusedSimpArgs false
set_option linter.unusedVariables false

structure SecOk (o : Object) (k : Nat) (s : Section) : Prop where
  good : goodName s.name = true
  noG : hasG o.globals s.name = false
  noS : hasS (o.sections.take k) s.name = false
  fine : secF s = 0
structure ObjOk (o : Object) : Prop where
  glob : globFault o.globals = (0, 0)
  few : o.sections.length ≤ 40
  secs : ∀ (k : Nat) s, o.sections[k]? = some s → SecOk o k s

theorem secsFrom_fst (o : Object) : ∀ (f i : Nat), (secsFrom o f i).1 = 0 → secsFrom o f i = (0, 0)
  | 0, i, _ => rfl
  | f + 1, i, h => by
    rw [secsFrom] at h ⊢
    cases hs : o.sections[i]? with
    | none => rfl
    | some s =>
      simp only [hs] at h ⊢
      by_cases c1 : goodName s.name = false
      · rw [if_pos c1] at h; simp at h
      rw [if_neg c1] at h ⊢
      by_cases c2 : (o.globals.any (fun g => decide (g.name = s.name)) || (o.sections.take i).any (fun t => decide (t.name = s.name))) = true
      · rw [if_pos c2] at h; simp at h
      rw [if_neg c2] at h ⊢
      by_cases c3 : secF s ≠ 0
      · rw [if_pos c3] at h; exact absurd h c3
      rw [if_neg c3] at h ⊢
      exact secsFrom_fst o f _ h
theorem secsFrom_ok (o : Object) : ∀ (f i : Nat), f + i = o.sections.length → (secsFrom o f i = (0, 0) ↔ ∀ (k : Nat) s, i ≤ k → o.sections[k]? = some s → SecOk o k s)
  | 0, i, hi => ⟨fun _ k s hk hs => by have := (List.getElem?_eq_some_iff.1 hs).1; omega, fun _ => rfl⟩
  | f + 1, i, hi => by
    have hlt : i < o.sections.length := by omega
    have hs : o.sections[i]? = some o.sections[i] := List.getElem?_eq_getElem hlt
    have ih := secsFrom_ok o f (i + 1) (by omega)
    rw [secsFrom, hs]
    simp only []
    by_cases c1 : goodName o.sections[i].name = false
    · rw [if_pos c1]
      constructor
      · intro h; simp at h
      · intro h
        have := (h i _ (Nat.le_refl _) hs).good
        rw [c1] at this
        cases this
    rw [if_neg c1]
    by_cases c2 : (o.globals.any (fun g => decide (g.name = o.sections[i].name)) || (o.sections.take i).any (fun t => decide (t.name = o.sections[i].name))) = true
    · rw [if_pos c2]
      constructor
      · intro h; simp at h
      · intro h
        have h1 := (h i _ (Nat.le_refl _) hs).noG
        have h2 := (h i _ (Nat.le_refl _) hs).noS
        unfold hasG at h1
        unfold hasS at h2
        rw [h1, h2] at c2
        cases c2
    rw [if_neg c2]
    by_cases c3 : secF o.sections[i] ≠ 0
    · rw [if_pos c3]
      constructor
      · intro h
        have := congrArg Prod.fst h
        exact absurd this c3
      · intro h
        exact absurd (h i _ (Nat.le_refl _) hs).fine c3
    rw [if_neg c3, ih]
    constructor
    · intro h k s hk he
      by_cases e : k = i
      · subst e
        rw [hs] at he
        injection he with he
        subst he
        simp only [Bool.or_eq_true, not_or, Bool.not_eq_true] at c2
        exact ⟨by simpa using c1, c2.1, c2.2, by simpa using c3⟩
      · exact h k s (by omega) he
    · exact fun h k s hk => h k s (by omega)
theorem objFault_fst (o : Object) (h : (objFault o).1 = 0) : objFault o = (0, 0) := by
  unfold objFault at h ⊢
  by_cases h1 : (globFault o.globals).1 ≠ 0
  · rw [if_pos h1] at h; exact absurd h h1
  rw [if_neg h1] at h ⊢
  by_cases h2 : 40 < o.sections.length
  · rw [if_pos h2] at h; simp at h
  rw [if_neg h2] at h ⊢
  exact secsFrom_fst o _ _ h
theorem globFrom_fst (l : List Global) : ∀ (f i : Nat) (sum : Int), (globFrom l f i sum).1 = 0 → globFrom l f i sum = (0, 0)
  | 0, i, sum, h => rfl
  | f + 1, i, sum, h => by
    rw [globFrom] at h ⊢
    cases hg : l[i]? with
    | none => rfl
    | some g =>
      simp only [hg] at h ⊢
      by_cases c1 : goodName g.name = false
      · rw [if_pos c1] at h; simp at h
      rw [if_neg c1] at h ⊢
      by_cases c2 : (l.take i).any (fun o => decide (o.name = g.name)) = true
      · rw [if_pos c2] at h; simp at h
      rw [if_neg c2] at h ⊢
      by_cases c3 : g.size < 1 ∨ 200 < g.size
      · rw [if_pos c3] at h; simp at h
      rw [if_neg c3] at h ⊢
      by_cases c4 : g.size < (g.init.length : Int)
      · rw [if_pos c4] at h; simp at h
      rw [if_neg c4] at h ⊢
      by_cases c5 : 200 < sum + g.size
      · rw [if_pos c5] at h; simp at h
      rw [if_neg c5] at h ⊢
      exact globFrom_fst l f _ _ h
theorem globFault_fst (l : List Global) (h : (globFault l).1 = 0) : globFault l = (0, 0) := by
  unfold globFault at h ⊢
  by_cases hn : 10 < l.length
  · rw [if_pos hn] at h; simp at h
  · rw [if_neg hn] at h ⊢
    exact globFrom_fst l _ _ _ h
theorem objOk_iff (o : Object) : objFault o = (0, 0) ↔ ObjOk o := by
  have hs := secsFrom_ok o o.sections.length 0 (by omega)
  unfold objFault
  by_cases h1 : (globFault o.globals).1 ≠ 0
  · rw [if_pos h1]
    exact ⟨fun h => absurd (congrArg Prod.fst h) h1, fun h => absurd (congrArg Prod.fst h.glob) h1⟩
  rw [if_neg h1]
  have hg := globFault_fst o.globals (by simpa using h1)
  by_cases h2 : 40 < o.sections.length
  · rw [if_pos h2]
    exact ⟨fun h => by simp at h, fun h => absurd h.few (by omega)⟩
  rw [if_neg h2, hs]
  exact ⟨fun h => ⟨hg, by omega, fun k s he => h k s (Nat.zero_le _) he⟩, fun h k s _ he => h.secs k s he⟩

structure GlobOk (g : Global) : Prop where
  good : goodName g.name = true
  low : 1 ≤ g.size
  high : g.size ≤ 200
  fits : (g.init.length : Int) ≤ g.size
theorem globFrom_ok (l : List Global) : ∀ (f i : Nat) (sum : Int), f + i = l.length → globFrom l f i sum = (0, 0) → ∀ (k : Nat) g, i ≤ k → l[k]? = some g → GlobOk g
  | 0, i, sum, hi, _, k, g, hk, he => by have := (List.getElem?_eq_some_iff.1 he).1; omega
  | f + 1, i, sum, hi, h, k, g, hk, he => by
    have hlt : i < l.length := by omega
    have hs : l[i]? = some l[i] := List.getElem?_eq_getElem hlt
    rw [globFrom, hs] at h
    simp only [] at h
    by_cases c1 : goodName l[i].name = false
    · rw [if_pos c1] at h; simp at h
    rw [if_neg c1] at h
    by_cases c2 : (l.take i).any (fun o => decide (o.name = l[i].name)) = true
    · rw [if_pos c2] at h; simp at h
    rw [if_neg c2] at h
    by_cases c3 : l[i].size < 1 ∨ 200 < l[i].size
    · rw [if_pos c3] at h; simp at h
    rw [if_neg c3] at h
    by_cases c4 : l[i].size < (l[i].init.length : Int)
    · rw [if_pos c4] at h; simp at h
    rw [if_neg c4] at h
    by_cases c5 : 200 < sum + l[i].size
    · rw [if_pos c5] at h; simp at h
    rw [if_neg c5] at h
    by_cases e : k = i
    · subst e
      rw [hs] at he
      injection he with he
      subst he
      exact ⟨by simpa using c1, by omega, by omega, by omega⟩
    · exact globFrom_ok l f (i + 1) _ (by omega) h k g (by omega) he
theorem globFault_ok {l : List Global} (h : globFault l = (0, 0)) : l.length ≤ 10 ∧ ∀ g ∈ l, GlobOk g := by
  unfold globFault at h
  by_cases hn : 10 < l.length
  · rw [if_pos hn] at h; simp at h
  · rw [if_neg hn] at h
    refine ⟨by omega, fun g hg => ?_⟩
    obtain ⟨k, hk, e⟩ := List.mem_iff_getElem.1 hg
    exact globFrom_ok l l.length 0 0 (by omega) h k g (Nat.zero_le _) (by rw [List.getElem?_eq_getElem hk, e])
theorem macsFault_few {l : List Mac} (h : macsFault l = (0, 0)) : l.length ≤ 5000 := by
  unfold macsFault at h
  by_cases hn : 5000 < l.length
  · rw [if_pos hn] at h; simp at h
  · omega
theorem readL_some {bs : List UInt8} {l : List Mac} (h : readL bs = some l) : bs.length ≤ 70000 ∧ macsFault l = (0, 0) := by
  rw [readL_eq] at h
  by_cases hn : 70000 < bs.length
  · rw [if_pos hn] at h; cases h
  · rw [if_neg hn, Option.bind_eq_some_iff] at h
    obtain ⟨l', _, h2⟩ := h
    by_cases hm : macsFault l' = (0, 0)
    · rw [if_pos hm] at h2
      injection h2 with h2
      subst h2
      exact ⟨by omega, hm⟩
    · rw [if_neg hm] at h2; cases h2
theorem mendsFrom_len (l : List Mac) (ms : List Mend) : ∀ (f i : Nat), f + i = ms.length → mendsFrom l ms f i = 0 → (l.filter fun m => m.op == 44).length = ms.length
  | 0, i, hi, h => by
    rw [mendsFrom] at h
    by_cases e : (l.filter fun m => m.op == 44).length = ms.length
    · exact e
    · rw [if_neg e] at h; simp at h
  | f + 1, i, hi, h => by
    have hs : ms[i]? = some ms[i] := List.getElem?_eq_getElem (by omega)
    rw [mendsFrom, hs] at h
    simp only [] at h
    by_cases c1 : ms[i].at_ < 0 ∨ (l.length : Int) ≤ ms[i].at_
    · rw [if_pos c1] at h; simp at h
    rw [if_neg c1] at h
    by_cases c2 : (l.getD ms[i].at_.toNat ⟨0, 0, 0, 0, 0⟩).op ≠ 44
    · rw [if_pos c2] at h; simp at h
    rw [if_neg c2] at h
    by_cases c3 : (l.getD ms[i].at_.toNat ⟨0, 0, 0, 0, 0⟩).n ≠ 0 ∨ (0 < i ∧ ms[i].at_ ≤ (ms.getD (i - 1) ⟨0, ByteArray.empty⟩).at_)
    · rw [if_pos c3] at h; simp at h
    rw [if_neg c3] at h
    by_cases c4 : goodName ms[i].name = false
    · rw [if_pos c4] at h; simp at h
    rw [if_neg c4] at h
    exact mendsFrom_len l ms f (i + 1) (by omega) h
theorem mendsFrom_ok (l : List Mac) (ms : List Mend) : ∀ (f i : Nat), f + i = ms.length → mendsFrom l ms f i = 0 → ∀ (k : Nat) m, i ≤ k → ms[k]? = some m → 0 ≤ m.at_ ∧ m.at_ < (l.length : Int) ∧ goodName m.name = true
  | 0, i, hi, _, k, m, hk, he => by have := (List.getElem?_eq_some_iff.1 he).1; omega
  | f + 1, i, hi, h, k, m, hk, he => by
    have hs : ms[i]? = some ms[i] := List.getElem?_eq_getElem (by omega)
    rw [mendsFrom, hs] at h
    simp only [] at h
    by_cases c1 : ms[i].at_ < 0 ∨ (l.length : Int) ≤ ms[i].at_
    · rw [if_pos c1] at h; simp at h
    rw [if_neg c1] at h
    by_cases c2 : (l.getD ms[i].at_.toNat ⟨0, 0, 0, 0, 0⟩).op ≠ 44
    · rw [if_pos c2] at h; simp at h
    rw [if_neg c2] at h
    by_cases c3 : (l.getD ms[i].at_.toNat ⟨0, 0, 0, 0, 0⟩).n ≠ 0 ∨ (0 < i ∧ ms[i].at_ ≤ (ms.getD (i - 1) ⟨0, ByteArray.empty⟩).at_)
    · rw [if_pos c3] at h; simp at h
    rw [if_neg c3] at h
    by_cases c4 : goodName ms[i].name = false
    · rw [if_pos c4] at h; simp at h
    rw [if_neg c4] at h
    by_cases e : k = i
    · subst e
      rw [hs] at he
      injection he with he
      subst he
      exact ⟨by omega, by omega, by simpa using c4⟩
    · exact mendsFrom_ok l ms f (i + 1) (by omega) h k m (by omega) he
theorem secF_ok {s : Section} (h : secF s = 0) : s.code.length ≤ 70000 ∧ s.mends.length ≤ 5000 ∧ ∀ m ∈ s.mends, 0 ≤ m.at_ ∧ m.at_ < 5000 ∧ goodName m.name = true := by
  unfold secF at h
  cases hr : readL s.code with
  | none => rw [hr] at h; simp at h
  | some l =>
    rw [hr] at h
    obtain ⟨h1, h2⟩ := readL_some hr
    have h3 := macsFault_few h2
    have h4 := mendsFrom_len l s.mends _ 0 (by omega) h
    have h5 := List.length_filter_le (fun m : Mac => m.op == 44) l
    refine ⟨h1, by omega, fun m hm => ?_⟩
    obtain ⟨k, hk, e⟩ := List.mem_iff_getElem.1 hm
    obtain ⟨a, b, c⟩ := mendsFrom_ok l s.mends _ 0 (by omega) h k m (Nat.zero_le _) (by rw [List.getElem?_eq_getElem hk, e])
    exact ⟨a, by omega, c⟩
theorem goodName_len {s : ByteArray} (h : goodName s = true) : 1 ≤ s.size ∧ s.size ≤ 12 := by
  unfold goodName at h
  simp at h
  exact h.1

end Go.Proofs.YtcakodemngchpaaGreatDoor
