/- Instructions of the machine, as they lie; faults compared; core.Within, core.Fault. Instructions of the machine, plainly: what may be, and what bytes tell. Objects, plainly: what may be. Lists of instructions that bytes tell, plainly. Is there a thing of a name in a list: slices.ContainsFunc, its closures. Objects that may be, plainly. Units, plainly: how they lie, and what may be (code.Check). Units: their parts in memory. -/
import Derived.Test.YtdanebboiekieaaGreatDoorQ01
import Derived.Test.YtdanebboiekieaaGreatDoorRows
import Derived.IntWalk
import Derived.Deep.LoopGhost
/- Instructions of the machine, as they lie; faults compared; core.Within, core.Fault. -/
namespace Go.Proofs.YtdanebboiekieaaGreatDoor
open Go.RowKit
set_option linter.unusedSimpArgs false
set_option linter.unusedVariables false
set_option maxHeartbeats 400000 in
theorem Within_calls (n lo hi : Int) (w : World) (R : Ending → World → Prop) (hR : R (.returned (.bool (decide (lo ≤ n ∧ n ≤ hi)))) w) :
 Calls Tryz.prog 38 #[.int .i64 n, .int .i64 lo, .int .i64 hi] w R := by
 by_cases h : lo ≤ n
 ·rw [show decide (lo ≤ n ∧ n ≤ hi) = decide (n ≤ hi) from by simp [h]] at hR
  go_enter Tryz.func38, Tryz.ntmps38
  go_wp2
  exact hR
 ·rw [show decide (lo ≤ n ∧ n ≤ hi) = false from by simp [h]] at hR
  go_enter Tryz.func38, Tryz.ntmps38
  go_wp2
  exact hR


set_option maxHeartbeats 400000 in
theorem Fault_calls (c a : Int) (w : World) (R : Ending → World → Prop) (hR : ∀ w', Below w.heap.size w w' → R (.returned (.agg #[.int .i64 c, .int .i64 a])) w') :
 Calls Tryz.prog 39 #[.int .i64 c, .int .i64 a] w R := by
 go_enter Tryz.func39, Tryz.ntmps39
 go_wp2
 refine bodyPost_ret (v := (.agg #[.int .i64 ((c, a)).1, .int .i64 ((c, a)).2])) (by simp [results, Tryz.results39, go_sem]) rfl ?_
 exact hR _ bl0

theorem info_Mac : (Tryz.prog.info? 45).map (fun i => (i.zero, i.size, i.bytes)) = some (some (.agg #[.int .i64 0, .int .i64 0, .int .i64 0, .int .i64 0, .int .i64 0]), 5, 40) := by kernel_rfl

structure Mac where
 op : Int
 dst : Int
 a : Int
 b : Int
 n : Int
def Mac.tup (m : Mac) : Int × Int × Int × Int × Int := (m.op, m.dst, m.a, m.b, m.n)
theorem Mac.tup_inj {m n : Mac} (h : m.tup = n.tup) : m = n := by
 cases m
 cases n
 simpa [Mac.tup] using h
instance : DecidableEq Mac := fun m n => if h : m.tup = n.tup then isTrue (Mac.tup_inj h) else isFalse (fun e => h (by rw [e]))
def Mac.cells (m : Mac) : List Value := [.int .i64 m.op, .int .i64 m.dst, .int .i64 m.a, .int .i64 m.b, .int .i64 m.n]
theorem neq_Fault (a b c d : Int) (w : World) : (binOp .neq 30 (.agg #[.int .i64 a, .int .i64 b]) (.agg #[.int .i64 c, .int .i64 d])).run Tryz.prog w = .ok (.bool (!decide (a = c ∧ b = d))) w := by
 have hp : Tryz.prog.stoodInHeld 30 = false := by kernel_rfl
 have ht : Tryz.prog.underlying 30 = some (.struct (Tryz.prog.fieldsOf 30)) := by kernel_rfl
 rw [run_neq_struct, run_equalIn_agg _ _ _ _ _ ht hp]
 have h3 := Tryz.underlying3
 simp [Tryz.underlying30, go_sem, h3]
 by_cases h1 : a = c <;> by_cases h2 : b = d <;> simp [h1, h2]

theorem res_Fault {fn : Func} {p : Tmp} (h : fn.results = #[.cell p 30]) {tmps : Array Value} {b : Nat} {w : World} {x y : Value} (hp : tmps.getD p undef = .pointer (some ⟨b, 0, none⟩))
 (hc : w.cell? ⟨b, 0, none⟩ = some x ∧ w.cell? ⟨b, 1, none⟩ = some y) : (results fn tmps).run Tryz.prog w = .ok (.agg #[x, y]) w := by
 rw [Array.getD_eq_getD_getElem?] at hp
 simp [results, h, hp, go_sem, hc.1, hc.2]

end Go.Proofs.YtdanebboiekieaaGreatDoor

/- Instructions of the machine, plainly: what may be, and what bytes tell. -/
namespace Go.Proofs.YtdanebboiekieaaGreatDoor
set_option linter.unusedSimpArgs false
set_option linter.unusedVariables false

/-- Which fields an Op speaks of: Dst, A, B; what N is (0: nothing; 1: a number; 2: an instruction; 3: a word of the frame; 4: a routine). -/
structure Shape where
 d : Bool
 a : Bool
 b : Bool
 n : Int
def shapeTab : List Shape :=
 [⟨false, false, false, 0⟩, ⟨true, false, false, 1⟩, ⟨true, true, false, 0⟩, ⟨true, true, false, 0⟩, ⟨true, true, false, 0⟩] ++
 List.replicate 14 ⟨true, true, true, 0⟩ ++ List.replicate 14 ⟨true, true, false, 1⟩ ++
 [⟨true, true, false, 1⟩, ⟨false, true, true, 1⟩, ⟨true, false, false, 3⟩, ⟨false, true, false, 3⟩, ⟨false, false, false, 2⟩, ⟨false, true, false, 2⟩, ⟨false, true, false, 2⟩] ++
 List.replicate 4 ⟨false, true, true, 2⟩ ++ [⟨false, false, false, 4⟩, ⟨false, false, false, 0⟩, ⟨true, false, false, 0⟩, ⟨false, true, false, 0⟩]
def shapeOf (op : Int) : Shape := if 1 ≤ op ∧ op ≤ 47 then shapeTab.getD op.toNat ⟨false, false, false, 0⟩ else ⟨false, false, false, 0⟩
def known (op : Int) : Bool := decide (1 ≤ op ∧ op ≤ 47)

/-- What is wrong with a field of a register; with the number. -/
def fieldF (used : Bool) (r : Int) : Int := if used then (if r < 0 ∨ 15 < r then 3 else 0) else if r ≠ 0 then 5 else 0
def numberF (kind n many : Int) : Int :=
 if kind = 1 then 0 else if kind = 0 then (if n ≠ 0 then 5 else 0) else if kind = 4 then (if n < 0 then 3 else 0)
 else if n < 0 ∨ (if kind = 3 then 120 else many) ≤ n then 3 else 0
def macF (m : Mac) (many : Int) : Int :=
 if known m.op = false then 4 else
 let s := shapeOf m.op
 if fieldF s.d m.dst = 3 ∨ fieldF s.a m.a = 3 ∨ fieldF s.b m.b = 3 ∨ numberF s.n m.n many = 3 then 3
 else if fieldF s.d m.dst = 5 ∨ fieldF s.a m.a = 5 ∨ fieldF s.b m.b = 5 ∨ numberF s.n m.n many = 5 then 5 else 0
def macsFrom (l : List Mac) : Nat → Nat → Int × Int
 | 0, _ => if ((l.getD (l.length - 1) ⟨0, 0, 0, 0, 0⟩).op = 37 ∨ (l.getD (l.length - 1) ⟨0, 0, 0, 0, 0⟩).op = 45) then (0, 0) else (5, (l.length : Int) - 1)
 | m + 1, i => if macF (l.getD i ⟨0, 0, 0, 0, 0⟩) l.length ≠ 0 then (macF (l.getD i ⟨0, 0, 0, 0, 0⟩) l.length, (i : Int)) else macsFrom l m (i + 1)
end Go.Proofs.YtdanebboiekieaaGreatDoor

/- Objects, plainly: what may be. -/
namespace Go.Proofs.YtdanebboiekieaaGreatDoor
open Go.RowKit
set_option linter.unusedSimpArgs false
set_option linter.unusedVariables false

structure Mend where
 at_ : Int
 name : ByteArray
structure Section where
 name : ByteArray
 code : List UInt8
 mends : List Mend
structure Global where
 name : ByteArray
 size : Int
 init : List Int
structure Object where
 globals : List Global
 sections : List Section
def rpGlobal : Rp Global := (rpStr.pair (rpInt.pair rpInt.slice)).as_ fun g => (g.name, g.size, g.init)
/-- May a byte stand at a place of a name? -/
def letterOk (i : Nat) (c : UInt8) : Bool :=
 decide ((97 ≤ c.toNat ∧ c.toNat ≤ 122) ∨ (65 ≤ c.toNat ∧ c.toNat ≤ 90) ∨ c.toNat = 95 ∨ (0 < i ∧ 48 ≤ c.toNat ∧ c.toNat ≤ 57))
def nameFrom (s : ByteArray) : Nat → Nat → Bool
 | 0, _ => true
 | m + 1, i => letterOk i (s.get! i) && nameFrom s m (i + 1)
def goodName (s : ByteArray) : Bool := decide (1 ≤ s.size ∧ s.size ≤ 12) && nameFrom s s.size 0

def globFrom (l : List Global) : Nat → Nat → Int → Int × Int
 | 0, _, _ => (0, 0)
 | m + 1, i, sum =>
   match l[i]? with
   | none => (0, 0)
   | some g =>
     if goodName g.name = false then (12, (i : Int))
     else if (l.take i).any (fun o => decide (o.name = g.name)) = true then (7, (i : Int))
     else if g.size < 1 ∨ 200 < g.size then (3, (i : Int))
     else if g.size < g.init.length then (9, (i : Int))
     else if 200 < sum + g.size then (10, (i : Int))
     else globFrom l m (i + 1) (sum + g.size)
/-! ### What the three words say -/
theorem rpGlobal_rep {w : World} {B : Nat} {g : Global} {cs : List Value} (h : rpGlobal.rep w B g cs) : ∃ v1, cs = [.string g.name, .int .i64 g.size, v1] ∧ rpInt.SL w B g.init v1 := by
 obtain ⟨c1, c2, rfl, rfl, c3, c4, rfl, rfl, v1, rfl, h1⟩ := h
 exact ⟨v1, rfl, h1⟩
theorem Rp.SL.global_at {w : World} {B : Nat} {xs : List Global} {A : Option Addr} {n c k : Nat} (h : rpGlobal.SL w B xs (.slice A n c)) (hk : k < xs.length) : ∃ b off g v1, A = some ⟨b, off, none⟩ ∧ b < B ∧ xs[k]? = some g ∧ rpInt.SL w B g.init v1 ∧
 w.cell? ⟨b, off + k * 3, none⟩ = some (.string g.name) ∧ w.cell? ⟨b, off + k * 3 + 1, none⟩ = some (.int .i64 g.size) ∧ w.cell? ⟨b, off + k * 3 + 2, none⟩ = some v1 := by
 obtain ⟨b, off, cs, hA, hb, hr, hcs⟩ := h.at_ (List.getElem?_eq_getElem hk)
 obtain ⟨v1, rfl, h1⟩ := rpGlobal_rep hr
 exact ⟨b, off, xs[k], v1, hA, hb, List.getElem?_eq_getElem hk, h1, hcs 0 _ rfl, hcs 1 _ rfl, hcs 2 _ rfl⟩
end Go.Proofs.YtdanebboiekieaaGreatDoor

/- Lists of instructions that bytes tell, plainly. -/
namespace Go.Proofs.YtdanebboiekieaaGreatDoor
set_option linter.unusedSimpArgs false
set_option linter.unusedVariables false

end Go.Proofs.YtdanebboiekieaaGreatDoor

/- Is there a thing of a name in a list: slices.ContainsFunc, its closures. -/
namespace Go.Proofs.YtdanebboiekieaaGreatDoor
open Go.RowKit
set_option linter.unusedSimpArgs false
set_option linter.unusedVariables false

theorem name_eq (a b : ByteArray) : (a.toList == b.toList) = decide (a = b) := by
 by_cases h : a = b
 ·subst h; simp
 ·rw [decide_eq_false h]
  apply beq_false_of_ne
  intro e
  exact h (ByteArray.ext (by simpa [ByteArray.toList_eq] using e))
end Go.Proofs.YtdanebboiekieaaGreatDoor

/- Objects that may be, plainly. -/
namespace Go.Proofs.YtdanebboiekieaaGreatDoor
open Go.RowKit
set_option linter.unusedSimpArgs false
set_option linter.unusedVariables false

end Go.Proofs.YtdanebboiekieaaGreatDoor
namespace Go.Proofs.YtdanebboiekieaaGreatDoor
open Go.RowKit
set_option linter.unusedSimpArgs false
set_option linter.unusedVariables false

structure UVal where
 reg : Bool
 n : Int
structure UIns where
 op : Int
 dst : Int
 a : UVal
 b : UVal
 fn : Int
 args : List UVal
structure UPhi where
 dst : Int
 from_ : List UVal
structure UEnd where
 kind : Int
 on : UVal
 to : List Int
structure UBlk where
 phis : List UPhi
 list : List UIns
 end_ : UEnd
structure UFun where
 name : ByteArray
 params : Int
 regs : Int
 blocks : List UBlk
structure Unt where
 globals : List Global
 funcs : List UFun
def rpVal : Rp UVal := (rpBool.pair rpInt).as_ fun v => (v.reg, v.n)
def rpIns : Rp UIns := (rpInt.pair (rpInt.pair (rpVal.pair (rpVal.pair (rpInt.pair rpVal.slice))))).as_ fun x => (x.op, x.dst, x.a, x.b, x.fn, x.args)
def rpPhi : Rp UPhi := (rpInt.pair rpVal.slice).as_ fun p => (p.dst, p.from_)
def rpEnd : Rp UEnd := (rpInt.pair (rpVal.pair rpInt.slice)).as_ fun e => (e.kind, e.on, e.to)
def rpBlk : Rp UBlk := (rpPhi.slice.pair (rpIns.slice.pair rpEnd)).as_ fun b => (b.phis, b.list, b.end_)
def rpFun : Rp UFun := (rpStr.pair (rpInt.pair (rpInt.pair rpBlk.slice))).as_ fun f => (f.name, f.params, f.regs, f.blocks)
def rpUnt : Rp Unt := (rpGlobal.slice.pair rpFun.slice).as_ fun u => (u.globals, u.funcs)

/-- The first that is not 0. -/
def fst0 : List Int → Int
 | [] => 0
 | x :: l => if x = 0 then fst0 l else x
theorem fst0_append (l m : List Int) : fst0 (l ++ m) = if fst0 l = 0 then fst0 m else fst0 l := by
 induction l with
 | nil => simp [fst0]
 | cons x l ih => by_cases h : x = 0 <;> simp [fst0, h, ih]
theorem fst0_zero {l : List Int} : fst0 l = 0 ↔ ∀ x ∈ l, x = 0 := by
 induction l with
 | nil => simp [fst0]
 | cons x l ih =>
   simp only [fst0, List.mem_cons]
   by_cases h : x = 0
   ·rw [if_pos h, ih]
    constructor
    ·rintro hl y (rfl | hy)
     ·exact h
     ·exact hl y hy
    ·intro hl y hy
     exact hl y (.inr hy)
   ·rw [if_neg h]
    constructor
    ·intro e
     exact absurd e h
    ·intro hl
     exact hl x (.inl rfl)
/-- The first place that is not 0: its value. -/
theorem fst0_at {l : List Int} {k : Nat} {x : Int} (hk : l[k]? = some x) (hx : x ≠ 0) (h0 : fst0 (l.take k) = 0) : fst0 l = x := by
 obtain ⟨hlt, e⟩ := List.getElem?_eq_some_iff.1 hk
 have : l = l.take k ++ (x :: l.drop (k + 1)) := by
  rw [← e, List.getElem_cons_drop, List.take_append_drop]
 rw [this, fst0_append, if_pos h0]
 simp [fst0, hx]
theorem fst0_snoc {l : List Int} {k : Nat} {x : Int} (hk : l[k]? = some x) (hx : x = 0) (h0 : fst0 (l.take k) = 0) : fst0 (l.take (k + 1)) = 0 := by
 obtain ⟨hlt, e⟩ := List.getElem?_eq_some_iff.1 hk
 rw [List.take_succ_eq_append_getElem hlt, fst0_append, if_pos h0, e, hx]
 rfl
/-- Which of Dst, A, B an Op has. -/
def opDst (op : Int) : Bool := decide ((1 ≤ op ∧ op ≤ 18) ∨ op = 20 ∨ op = 21)
def opA (op : Int) : Bool := decide ((1 ≤ op ∧ op ≤ 19) ∨ op = 22)
def opB (op : Int) : Bool := decide ((2 ≤ op ∧ op ≤ 15) ∨ op = 19)

def valF (regs : Int) (v : UVal) : Int := if v.reg = true ∧ ¬ (0 ≤ v.n ∧ v.n ≤ regs - 1) then 3 else 0
def dstF (regs n : Int) : Int := if 0 ≤ n ∧ n ≤ regs - 1 then 0 else 3
def valsF (regs : Int) (l : List UVal) : Int := fst0 (l.map (valF regs))
def isZ (v : UVal) : Bool := !v.reg && decide (v.n = 0)
def endF (nb regs : Int) (e : UEnd) : Int :=
 if ¬ (1 ≤ e.kind ∧ e.kind ≤ 3) then 4
 else if (e.to.length : Int) ≠ e.kind - 1 then 9
 else if e.to.any (fun t => !decide (1 ≤ t ∧ t ≤ nb - 1)) = true then 3
 else if (e.kind = 3 ∧ e.to[0]? = e.to[1]?) ∨ (e.kind = 2 ∧ isZ e.on = false) then 5
 else valF regs e.on
/-- Whence one comes to a block, of the first k blocks. -/
def edgesTo (l : List UBlk) : Nat → List (Int × Int)
 | 0 => []
 | k + 1 => edgesTo l k ++ (match l[k]? with
   | none => []
   | some b => b.end_.to.map fun t => ((k : Int), t))
def aheadL (l : List UBlk) (t : Int) : List Int := ((edgesTo l l.length).filter fun e => decide (e.2 = t)).map (·.1)
def phiF (f : UFun) (k : Nat) (p : UPhi) : Int :=
 if k = 0 then 5 else if dstF f.regs p.dst ≠ 0 then dstF f.regs p.dst
 else if p.from_.length ≠ (aheadL f.blocks k).length then 9 else valsF f.regs p.from_
def callF (u : Unt) (regs : Int) (x : UIns) : Int :=
 if x.op ≠ 20 then 0 else
 if ¬ (0 ≤ x.fn ∧ x.fn ≤ (u.funcs.length : Int) - 1) then 3 else
 match u.funcs[x.fn.toNat]? with
 | none => 3
 | some g => if (x.args.length : Int) ≠ g.params then 9 else valsF regs x.args
def insF (u : Unt) (regs : Int) (x : UIns) : Int :=
 if ¬ (1 ≤ x.op ∧ x.op ≤ 22) then 4
 else if (opDst x.op = false ∧ x.dst ≠ -1) ∨ (opA x.op = false ∧ isZ x.a = false) ∨ (opB x.op = false ∧ isZ x.b = false) ∨ (x.op ≠ 20 ∧ (x.fn ≠ 0 ∨ 0 < x.args.length)) then 5
 else if opDst x.op = true ∧ ¬ (x.op = 20 ∧ x.dst = -1) ∧ dstF regs x.dst ≠ 0 then dstF regs x.dst
 else fst0 [valF regs x.a, valF regs x.b, callF u regs x]
def blkF (u : Unt) (f : UFun) (k : Nat) (b : UBlk) : Int := fst0 (b.phis.map (phiF f k) ++ b.list.map (insF u f.regs))
def bodyF (u : Unt) (f : UFun) : Int :=
 if fst0 (f.blocks.map fun b => endF f.blocks.length f.regs b.end_) ≠ 0 then fst0 (f.blocks.map fun b => endF f.blocks.length f.regs b.end_)
 else fst0 (f.blocks.mapIdx fun k b => blkF u f k b)
/-- How many phis and instructions, as an int counts them. -/
def manyW (l : List UBlk) : Nat → Int
 | 0 => 0
 | k + 1 => match l[k]? with
   | none => manyW l k
   | some b => wrap64 (manyW l k + wrap64 ((b.phis.length : Int) + (b.list.length : Int)))
def headF (nameIn : ByteArray → Bool) (f : UFun) : Int :=
 if goodName f.name = false then 12
 else if nameIn f.name = true then 7
 else if ¬ (0 ≤ f.params ∧ f.params ≤ 6) ∨ ¬ (f.params ≤ f.regs ∧ f.regs ≤ 100) then 3
 else if ¬ (1 ≤ (f.blocks.length : Int) ∧ (f.blocks.length : Int) ≤ 40) ∨ 300 < manyW f.blocks f.blocks.length then 2
 else 0
/-- The first that is not 0, and its place. -/
def fstAt : List Int → Nat → Int × Int
 | [], _ => (0, 0)
 | x :: l, k => if x = 0 then fstAt l (k + 1) else (x, (k : Int))
theorem fstAt_append (l m : List Int) (k : Nat) : fstAt (l ++ m) k = if fst0 l = 0 then fstAt m (k + l.length) else fstAt l k := by
 induction l generalizing k with
 | nil => simp [fst0]
 | cons x l ih =>
   have e : k + 1 + l.length = k + (l.length + 1) := by omega
   by_cases h : x = 0 <;> simp [fst0, fstAt, h, ih, e]
theorem fstAt_at {l : List Int} {k : Nat} {x : Int} (hk : l[k]? = some x) (hx : x ≠ 0) (h0 : fst0 (l.take k) = 0) : fstAt l 0 = (x, (k : Int)) := by
 obtain ⟨hlt, e⟩ := List.getElem?_eq_some_iff.1 hk
 have h : l = l.take k ++ (x :: l.drop (k + 1)) := by
  rw [← e, List.getElem_cons_drop, List.take_append_drop]
 rw [h, fstAt_append, if_pos h0]
 simp only [fstAt, if_neg hx, List.length_take]
 rw [show 0 + min k l.length = k from by omega]
theorem fstAt_code {l : List Int} (k : Nat) : (fstAt l k).1 = fst0 l := by
 induction l generalizing k with
 | nil => rfl
 | cons x l ih =>
   unfold fst0 fstAt
   by_cases hx : x = 0
   ·rw [if_pos hx, if_pos hx]
    exact ih _
   ·rw [if_neg hx, if_neg hx]
def mainU : ByteArray := ⟨#[109, 97, 105, 110]⟩
def nameG (u : Unt) (i : Nat) (nm : ByteArray) : Bool := (u.globals.map (·.name) ++ (u.funcs.take i).map (·.name)).any fun o => decide (o = nm)
def headsF (u : Unt) : List Int := u.funcs.mapIdx fun i f => headF (nameG u i) f
def bodiesF (u : Unt) : List Int := u.funcs.map (bodyF u)
def checkF (u : Unt) : Int × Int :=
 if 10 < u.globals.length ∨ 10 < u.funcs.length then (2, 0)
 else if globFrom u.globals u.globals.length 0 0 ≠ (0, 0) then globFrom u.globals u.globals.length 0 0
 else if fst0 (headsF u) ≠ 0 then fstAt (headsF u) 0
 else if fst0 (bodiesF u) ≠ 0 then fstAt (bodiesF u) 0
 else match u.funcs.findIdx? fun f => decide (f.name = mainU) with
  | none => (6, 0)
  | some i => match u.funcs[i]? with
    | none => (6, 0)
    | some f => if 0 < f.params then (5, (i : Int)) else (0, 0)
theorem checkF_parts {u : Unt} (h : checkF u = (0, 0)) : u.globals.length ≤ 10 ∧ u.funcs.length ≤ 10 ∧ fst0 (headsF u) = 0 ∧ fst0 (bodiesF u) = 0 := by
 unfold checkF at h
 split at h
 ·simp at h
 rename_i h1
 split at h
 ·rename_i h2
  exact absurd h h2
 split at h
 ·rename_i h3
  have := fstAt_code (l := headsF u) 0
  rw [h] at this
  exact absurd this.symm h3
 rename_i h3
 split at h
 ·rename_i h4
  have := fstAt_code (l := bodiesF u) 0
  rw [h] at this
  exact absurd this.symm h4
 rename_i h4
 exact ⟨by omega, by omega, by simpa using h3, by simpa using h4⟩
/-- A value is a number, or a register that there is. -/
def ValOk (regs : Int) (v : UVal) : Prop := v.reg = true → 0 ≤ v.n ∧ v.n < regs
theorem valF_zero {regs : Int} {v : UVal} : valF regs v = 0 ↔ ValOk regs v := by
 unfold valF ValOk
 split
 ·rename_i h
  simp only [Int.reduceEq, false_iff]
  intro h2
  exact h.2 (by have := h2 h.1; omega)
 ·rename_i h
  simp only [true_iff]
  intro hr
  have : ¬ ¬ (0 ≤ v.n ∧ v.n ≤ regs - 1) := fun hn => h ⟨hr, hn⟩
  omega
theorem valsF_zero {regs : Int} {l : List UVal} : valsF regs l = 0 ↔ ∀ v ∈ l, ValOk regs v := by
 unfold valsF
 rw [fst0_zero]
 simp only [List.mem_map, forall_exists_index, and_imp, forall_apply_eq_imp_iff₂, valF_zero]
structure InsOk (u : Unt) (regs : Int) (x : UIns) : Prop where
 op : 1 ≤ x.op ∧ x.op ≤ 22
 a : ValOk regs x.a
 b : ValOk regs x.b
 noA : opA x.op = false → isZ x.a = true
 noB : opB x.op = false → isZ x.b = true
 args : ∀ v ∈ x.args, ValOk regs v
 noArgs : x.op ≠ 20 → x.args = [] ∧ x.fn = 0
 dst : x.dst = -1 ∨ (0 ≤ x.dst ∧ x.dst < regs)
 noDst : opDst x.op = false → x.dst = -1
 opDst : opDst x.op = true → x.op ≠ 20 → 0 ≤ x.dst
 call : x.op = 20 → ∃ g, u.funcs[x.fn.toNat]? = some g ∧ 0 ≤ x.fn ∧ (x.args.length : Int) = g.params
theorem insF_zero {u : Unt} {regs : Int} {x : UIns} (h : insF u regs x = 0) : InsOk u regs x := by
 unfold insF at h
 split at h
 ·simp at h
 rename_i h1
 split at h
 ·simp at h
 rename_i h2
 split at h
 ·rename_i h3
  exact absurd h h3.2.2
 rename_i h3
 rw [fst0_zero] at h
 have ha := h (valF regs x.a) (by simp)
 have hb := h (valF regs x.b) (by simp)
 have hc := h (callF u regs x) (by simp)
 rw [valF_zero] at ha hb
 have hd : 0 ≤ x.dst ∧ x.dst < regs ∨ ¬ (opDst x.op = true ∧ ¬ (x.op = 20 ∧ x.dst = -1)) := by
  by_cases hx : opDst x.op = true ∧ ¬ (x.op = 20 ∧ x.dst = -1)
  ·left
   have : ¬ dstF regs x.dst ≠ 0 := fun hn => h3 ⟨hx.1, hx.2, hn⟩
   unfold dstF at this
   split at this
   ·omega
   ·simp at this
  ·exact .inr hx
 have e20 : opDst 20 = true := by decide
 have hcall : x.op ≠ 20 → x.args = [] ∧ x.fn = 0 := fun hne => by
  constructor
  ·apply List.eq_nil_of_length_eq_zero
   apply Classical.byContradiction
   intro hn
   exact h2 (.inr (.inr (.inr ⟨hne, .inr (by omega)⟩)))
  ·apply Classical.byContradiction
   intro hn
   exact h2 (.inr (.inr (.inr ⟨hne, .inl hn⟩)))
 have hargs : ∀ v ∈ x.args, ValOk regs v := by
  by_cases hne : x.op = 20
  ·unfold callF at hc
   rw [if_neg (by omega)] at hc
   split at hc
   ·simp at hc
   split at hc
   ·simp at hc
   split at hc
   ·simp at hc
   exact valsF_zero.1 hc
  ·rw [(hcall hne).1]
   intro v hv
   simp at hv
 refine ⟨by omega, ha, hb, fun hn => ?_, fun hn => ?_, hargs, hcall, ?_, fun hn => ?_, fun hn hne => ?_, fun hne => ?_⟩
 ·apply Classical.byContradiction
  intro hz
  exact h2 (.inr (.inl ⟨hn, by simpa using hz⟩))
 ·apply Classical.byContradiction
  intro hz
  exact h2 (.inr (.inr (.inl ⟨hn, by simpa using hz⟩)))
 ·rcases hd with hd | hd
  ·exact .inr hd
  ·by_cases hn : opDst x.op = true
   ·left
    apply Classical.byContradiction
    intro hm
    exact hd ⟨hn, fun hh => hm hh.2⟩
   ·left
    apply Classical.byContradiction
    intro hm
    exact h2 (.inl ⟨by simpa using hn, hm⟩)
 ·apply Classical.byContradiction
  intro hm
  exact h2 (.inl ⟨hn, hm⟩)
 ·rcases hd with hd | hd
  ·exact hd.1
  ·exact absurd ⟨hn, fun hh => hne hh.1⟩ hd
 ·unfold callF at hc
  rw [if_neg (by omega)] at hc
  split at hc
  ·simp at hc
  split at hc
  ·simp at hc
  rename_i g hg
  split at hc
  ·simp at hc
  rename_i hl
  exact ⟨g, hg, by omega, by omega⟩
structure PhiOk (f : UFun) (k : Nat) (p : UPhi) : Prop where
 dst : 0 ≤ p.dst ∧ p.dst < f.regs
 from_ : ∀ v ∈ p.from_, ValOk f.regs v
 len : p.from_.length = (aheadL f.blocks k).length
structure FunOk (u : Unt) (f : UFun) : Prop where
 params : 0 ≤ f.params ∧ f.params ≤ 6
 regs : f.params ≤ f.regs ∧ f.regs ≤ 100
 blocks : 1 ≤ f.blocks.length ∧ f.blocks.length ≤ 40
 to : ∀ b ∈ f.blocks, ∀ t ∈ b.end_.to, 1 ≤ t ∧ t < f.blocks.length
 on : ∀ b ∈ f.blocks, ValOk f.regs b.end_.on
 ins : ∀ b ∈ f.blocks, ∀ x ∈ b.list, InsOk u f.regs x
 phis : ∀ k b, f.blocks[k]? = some b → ∀ p ∈ b.phis, PhiOk f k p
theorem endF_zero {nb regs : Int} {e : UEnd} (h : endF nb regs e = 0) : (∀ t ∈ e.to, 1 ≤ t ∧ t < nb) ∧ ValOk regs e.on := by
 unfold endF at h
 split at h
 ·simp at h
 split at h
 ·simp at h
 split at h
 ·simp at h
 rename_i h3
 split at h
 ·simp at h
 rw [valF_zero] at h
 refine ⟨fun t ht => ?_, h⟩
 apply Classical.byContradiction
 intro hn
 exact h3 (List.any_eq_true.2 ⟨t, ht, by simp; omega⟩)
theorem phiF_zero {f : UFun} {k : Nat} {p : UPhi} (h : phiF f k p = 0) : PhiOk f k p := by
 unfold phiF at h
 split at h
 ·simp at h
 split at h
 ·rename_i h2
  exact absurd h h2
 rename_i h2
 split at h
 ·simp at h
 rename_i h3
 refine ⟨?_, valsF_zero.1 h, by omega⟩
 unfold dstF at h2
 split at h2
 ·omega
 ·simp at h2
theorem funOk {u : Unt} (h : checkF u = (0, 0)) {k : Nat} {f : UFun} (hf : u.funcs[k]? = some f) : FunOk u f := by
 obtain ⟨_, _, hh, hb⟩ := checkF_parts h
 rw [fst0_zero] at hh hb
 have hm : f ∈ u.funcs := List.mem_of_getElem? hf
 have h1 := hb (bodyF u f) (List.mem_map.2 ⟨f, hm, rfl⟩)
 have h2 := hh (headF (nameG u k) f) (by
  unfold headsF
  apply List.mem_of_getElem? (i := k)
  rw [List.getElem?_mapIdx, hf]
  rfl)
 unfold headF at h2
 split at h2
 ·simp at h2
 split at h2
 ·simp at h2
 split at h2
 ·simp at h2
 rename_i h5
 split at h2
 ·simp at h2
 rename_i h6
 unfold bodyF at h1
 split at h1
 ·rename_i h7
  exact absurd h1 h7
 rename_i h7
 have h7' : fst0 (f.blocks.map fun b => endF f.blocks.length f.regs b.end_) = 0 := by simpa using h7
 rw [fst0_zero] at h7' h1
 have hE : ∀ b ∈ f.blocks, endF f.blocks.length f.regs b.end_ = 0 := fun b hb => h7' _ (List.mem_map.2 ⟨b, hb, rfl⟩)
 have hB : ∀ (k : Nat) b, f.blocks[k]? = some b → blkF u f k b = 0 := fun k b hb => h1 _ (by
  apply List.mem_of_getElem? (i := k)
  rw [List.getElem?_mapIdx, hb]
  rfl)
 refine ⟨by omega, by omega, by omega, fun b hb t ht => ?_, fun b hb => (endF_zero (hE b hb)).2, fun b hb x hx => ?_, fun k b hb p hp => ?_⟩
 ·have := (endF_zero (hE b hb)).1 t ht
  omega
 ·obtain ⟨j, hj⟩ := List.mem_iff_getElem?.1 hb
  have := hB j b hj
  unfold blkF at this
  rw [fst0_zero] at this
  exact insF_zero (this _ (List.mem_append_right _ (List.mem_map.2 ⟨x, hx, rfl⟩)))
 ·have := hB k b hb
  unfold blkF at this
  rw [fst0_zero] at this
  exact phiF_zero (this _ (List.mem_append_left _ (List.mem_map.2 ⟨p, hp, rfl⟩)))
end Go.Proofs.YtdanebboiekieaaGreatDoor
namespace Go.Proofs.YtdanebboiekieaaGreatDoor
open Go.RowKit
set_option linter.unusedSimpArgs false
set_option linter.unusedVariables false

theorem blk_cells {w : World} {b j : Nat} {A : Array Value} {T : TypeId} {fr : Nat × Nat} (h : w.heap[b]? = some (.cells A T fr)) : w.cell? ⟨b, j, none⟩ = A[j]? := by simp [World.cell?, h]
theorem rpVal_rep {w : World} {B : Nat} {v : UVal} {cs : List Value} (h : rpVal.rep w B v cs) : cs = [.bool v.reg, .int .i64 v.n] := by
 obtain ⟨c1, c2, rfl, rfl, rfl⟩ := h
 rfl
theorem rpIns_rep {w : World} {B : Nat} {x : UIns} {cs : List Value} (h : rpIns.rep w B x cs) : ∃ v, cs = [.int .i64 x.op, .int .i64 x.dst, .bool x.a.reg, .int .i64 x.a.n, .bool x.b.reg, .int .i64 x.b.n, .int .i64 x.fn, v] ∧ rpVal.SL w B x.args v := by
 obtain ⟨c1, c2, rfl, rfl, c3, c4, rfl, rfl, c5, c6, rfl, h5, c7, c8, rfl, h7, c9, c10, rfl, rfl, v, rfl, h⟩ := h
 obtain rfl := rpVal_rep h5
 obtain rfl := rpVal_rep h7
 exact ⟨v, rfl, h⟩
theorem rpPhi_rep {w : World} {B : Nat} {p : UPhi} {cs : List Value} (h : rpPhi.rep w B p cs) : ∃ v, cs = [.int .i64 p.dst, v] ∧ rpVal.SL w B p.from_ v := by
 obtain ⟨c1, c2, rfl, rfl, v, rfl, h⟩ := h
 exact ⟨v, rfl, h⟩
theorem rpBlk_rep {w : World} {B : Nat} {b : UBlk} {cs : List Value} (h : rpBlk.rep w B b cs) : ∃ vp vl vt, cs = [vp, vl, .int .i64 b.end_.kind, .bool b.end_.on.reg, .int .i64 b.end_.on.n, vt] ∧ rpPhi.SL w B b.phis vp ∧ rpIns.SL w B b.list vl ∧ rpInt.SL w B b.end_.to vt := by
 obtain ⟨c1, c2, rfl, ⟨vp, rfl, h1⟩, c3, c4, rfl, ⟨vl, rfl, h2⟩, c5, c6, rfl, rfl, c7, c8, rfl, h7, vt, rfl, h3⟩ := h
 obtain rfl := rpVal_rep h7
 exact ⟨vp, vl, vt, rfl, h1, h2, h3⟩
theorem rpFun_rep {w : World} {B : Nat} {f : UFun} {cs : List Value} (h : rpFun.rep w B f cs) : ∃ v, cs = [.string f.name, .int .i64 f.params, .int .i64 f.regs, v] ∧ rpBlk.SL w B f.blocks v := by
 obtain ⟨c1, c2, rfl, rfl, c3, c4, rfl, rfl, c5, c6, rfl, rfl, v, rfl, h⟩ := h
 exact ⟨v, rfl, h⟩
theorem rpUnt_rep {w : World} {B : Nat} {u : Unt} {cs : List Value} (h : rpUnt.rep w B u cs) : ∃ v1 v2, cs = [v1, v2] ∧ rpGlobal.SL w B u.globals v1 ∧ rpFun.SL w B u.funcs v2 := by
 obtain ⟨c1, c2, rfl, ⟨v1, rfl, h1⟩, v2, rfl, h2⟩ := h
 exact ⟨v1, v2, rfl, h1, h2⟩
theorem Rp.SL.val_at {w : World} {B : Nat} {xs : List UVal} {A : Option Addr} {n c k : Nat} (h : rpVal.SL w B xs (.slice A n c)) (hk : k < xs.length) : ∃ b off, A = some ⟨b, off, none⟩ ∧ b < B ∧
 w.cell? ⟨b, off + k * 2, none⟩ = some (.bool xs[k].reg) ∧ w.cell? ⟨b, off + k * 2 + 1, none⟩ = some (.int .i64 xs[k].n) := by
 obtain ⟨b, off, cs, hA, hb, hr, hcs⟩ := h.at_ (List.getElem?_eq_getElem hk)
 obtain rfl := rpVal_rep hr
 exact ⟨b, off, hA, hb, hcs 0 _ rfl, hcs 1 _ rfl⟩
theorem Rp.SL.ins_at {w : World} {B : Nat} {xs : List UIns} {A : Option Addr} {n c k : Nat} (h : rpIns.SL w B xs (.slice A n c)) (hk : k < xs.length) : ∃ b off v, A = some ⟨b, off, none⟩ ∧ b < B ∧ rpVal.SL w B xs[k].args v ∧
 w.cell? ⟨b, off + k * 8, none⟩ = some (.int .i64 xs[k].op) ∧ w.cell? ⟨b, off + k * 8 + 1, none⟩ = some (.int .i64 xs[k].dst) ∧ w.cell? ⟨b, off + k * 8 + 2, none⟩ = some (.bool xs[k].a.reg) ∧ w.cell? ⟨b, off + k * 8 + 3, none⟩ = some (.int .i64 xs[k].a.n) ∧
 w.cell? ⟨b, off + k * 8 + 4, none⟩ = some (.bool xs[k].b.reg) ∧ w.cell? ⟨b, off + k * 8 + 5, none⟩ = some (.int .i64 xs[k].b.n) ∧ w.cell? ⟨b, off + k * 8 + 6, none⟩ = some (.int .i64 xs[k].fn) ∧ w.cell? ⟨b, off + k * 8 + 7, none⟩ = some v := by
 obtain ⟨b, off, cs, hA, hb, hr, hcs⟩ := h.at_ (List.getElem?_eq_getElem hk)
 obtain ⟨v, rfl, hv⟩ := rpIns_rep hr
 exact ⟨b, off, v, hA, hb, hv, hcs 0 _ rfl, hcs 1 _ rfl, hcs 2 _ rfl, hcs 3 _ rfl, hcs 4 _ rfl, hcs 5 _ rfl, hcs 6 _ rfl, hcs 7 _ rfl⟩
theorem Rp.SL.phi_at {w : World} {B : Nat} {xs : List UPhi} {A : Option Addr} {n c k : Nat} (h : rpPhi.SL w B xs (.slice A n c)) (hk : k < xs.length) : ∃ b off v, A = some ⟨b, off, none⟩ ∧ b < B ∧ rpVal.SL w B xs[k].from_ v ∧
 w.cell? ⟨b, off + k * 2, none⟩ = some (.int .i64 xs[k].dst) ∧ w.cell? ⟨b, off + k * 2 + 1, none⟩ = some v := by
 obtain ⟨b, off, cs, hA, hb, hr, hcs⟩ := h.at_ (List.getElem?_eq_getElem hk)
 obtain ⟨v, rfl, hv⟩ := rpPhi_rep hr
 exact ⟨b, off, v, hA, hb, hv, hcs 0 _ rfl, hcs 1 _ rfl⟩
theorem Rp.SL.blk_at {w : World} {B : Nat} {xs : List UBlk} {A : Option Addr} {n c k : Nat} (h : rpBlk.SL w B xs (.slice A n c)) (hk : k < xs.length) : ∃ b off vp vl vt, A = some ⟨b, off, none⟩ ∧ b < B ∧ rpPhi.SL w B xs[k].phis vp ∧ rpIns.SL w B xs[k].list vl ∧ rpInt.SL w B xs[k].end_.to vt ∧
 w.cell? ⟨b, off + k * 6, none⟩ = some vp ∧ w.cell? ⟨b, off + k * 6 + 1, none⟩ = some vl ∧ w.cell? ⟨b, off + k * 6 + 2, none⟩ = some (.int .i64 xs[k].end_.kind) ∧ w.cell? ⟨b, off + k * 6 + 3, none⟩ = some (.bool xs[k].end_.on.reg) ∧
 w.cell? ⟨b, off + k * 6 + 4, none⟩ = some (.int .i64 xs[k].end_.on.n) ∧ w.cell? ⟨b, off + k * 6 + 5, none⟩ = some vt := by
 obtain ⟨b, off, cs, hA, hb, hr, hcs⟩ := h.at_ (List.getElem?_eq_getElem hk)
 obtain ⟨vp, vl, vt, rfl, h1, h2, h3⟩ := rpBlk_rep hr
 exact ⟨b, off, vp, vl, vt, hA, hb, h1, h2, h3, hcs 0 _ rfl, hcs 1 _ rfl, hcs 2 _ rfl, hcs 3 _ rfl, hcs 4 _ rfl, hcs 5 _ rfl⟩
theorem Rp.SL.fun_at {w : World} {B : Nat} {xs : List UFun} {A : Option Addr} {n c k : Nat} (h : rpFun.SL w B xs (.slice A n c)) (hk : k < xs.length) : ∃ b off v, A = some ⟨b, off, none⟩ ∧ b < B ∧ rpBlk.SL w B xs[k].blocks v ∧
 w.cell? ⟨b, off + k * 4, none⟩ = some (.string xs[k].name) ∧ w.cell? ⟨b, off + k * 4 + 1, none⟩ = some (.int .i64 xs[k].params) ∧ w.cell? ⟨b, off + k * 4 + 2, none⟩ = some (.int .i64 xs[k].regs) ∧ w.cell? ⟨b, off + k * 4 + 3, none⟩ = some v := by
 obtain ⟨b, off, cs, hA, hb, hr, hcs⟩ := h.at_ (List.getElem?_eq_getElem hk)
 obtain ⟨v, rfl, hv⟩ := rpFun_rep hr
 exact ⟨b, off, v, hA, hb, hv, hcs 0 _ rfl, hcs 1 _ rfl, hcs 2 _ rfl, hcs 3 _ rfl⟩
/-- The numbers of a unit fit. -/
def ValI (v : UVal) : Prop := I64 v.n
structure InsI (x : UIns) : Prop where
 op : I64 x.op
 dst : I64 x.dst
 a : ValI x.a
 b : ValI x.b
 fn : I64 x.fn
 args : ∀ v ∈ x.args, ValI v
structure BlkI (b : UBlk) : Prop where
 phis : ∀ p ∈ b.phis, I64 p.dst ∧ ∀ v ∈ p.from_, ValI v
 list : ∀ x ∈ b.list, InsI x
 kind : I64 b.end_.kind
 on : ValI b.end_.on
 to : ∀ t ∈ b.end_.to, I64 t
structure FunI (f : UFun) : Prop where
 name : f.name.size ≤ maxLen
 params : I64 f.params
 regs : I64 f.regs
 blocks : ∀ b ∈ f.blocks, BlkI b
structure UntI (u : Unt) : Prop where
 globals : ∀ g ∈ u.globals, rpGlobal.ok g
 funcs : ∀ f ∈ u.funcs, FunI f
theorem rpVal_ok {v : UVal} (h : rpVal.ok v) : ValI v := h.2
theorem rpIns_ok {x : UIns} (h : rpIns.ok x) : InsI x := ⟨h.1, h.2.1, rpVal_ok h.2.2.1, rpVal_ok h.2.2.2.1, h.2.2.2.2.1, fun v hv => rpVal_ok (h.2.2.2.2.2.2 v hv)⟩
theorem rpBlk_ok {b : UBlk} (h : rpBlk.ok b) : BlkI b :=
 ⟨fun p hp => ⟨(h.1.2 p hp).1, fun v hv => rpVal_ok ((h.1.2 p hp).2.2 v hv)⟩, fun x hx => rpIns_ok (h.2.1.2 x hx), h.2.2.1, rpVal_ok h.2.2.2.1, fun t ht => h.2.2.2.2.2 t ht⟩
theorem rpFun_ok {f : UFun} (h : rpFun.ok f) : FunI f := ⟨h.1, h.2.1, h.2.2.1, fun b hb => rpBlk_ok (h.2.2.2.2 b hb)⟩
theorem rpUnt_ok {u : Unt} (h : rpUnt.ok u) : UntI u := ⟨fun g hg => h.1.2 g hg, fun f hf => rpFun_ok (h.2.2 f hf)⟩
end Go.Proofs.YtdanebboiekieaaGreatDoor
