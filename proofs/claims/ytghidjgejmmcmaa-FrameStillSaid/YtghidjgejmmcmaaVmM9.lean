/- Frames: what an instruction does with a frame, what becomes of it when a child's end is given, how it ends. No conditions. -/
import Derived.Test.YtghidjgejmmcmaaVmC1
import Derived.Test.YtghidjgejmmcmaaVmM4
import Derived.Test.YtghidjgejmmcmaaVmSL
set_option linter.unusedVariables false
set_option linter.unusedSimpArgs false
namespace Go.Proofs.YtghidjgejmmcmaaW.Md
open Go
structure Rf where
  ag : Int
  gen : Int
  deriving DecidableEq
structure Ou where
  trap : Int
  v : Vl
  deriving DecidableEq
structure Slt where
  state : Int
  kid : Rf
  out : Ou
  deriving DecidableEq
structure Fr where
  fn : Int
  pc : Int
  stack : List Vl
  locals : List Vl
  slots : List Slt
  seed : Int
  spawned : Int
  draws : Int
  state : Int
  wait : Int
  out : Ou
  up : Rf
  upSlot : Int
  deriving DecidableEq
structure Ac where
  kind : Int
  fn : Int
  slot : Int
  seed : Int
  args : List Vl
  deriving DecidableEq
def v0 : Vl := ⟨0, 0⟩
def o0 : Ou := ⟨0, v0⟩
def noK : Rf := ⟨-1, 0⟩
def s0 : Slt := ⟨0, ⟨0, 0⟩, o0⟩
def acN (k : Int) : Ac := ⟨k, 0, 0, 0, []⟩
def drawV (s k : Int) : Vl := ⟨(drawI s k).1, (drawI s k).2⟩
def codeOf (p : List Fu) (fn : Int) : List Instr := ((p[fn.toNat]?).map Fu.c).getD []
def thereX (p : List Fu) (f : Fr) (x : Instr) : Bool :=
  imay x && (if x.op = 1 ∨ x.op = 2 then decide (x.a < f.locals.length) else if x.op = 14 then decide (x.a < f.slots.length) else if x.op = 13 then decide (x.a < p.length) && decide (x.b < f.slots.length) else true)
def instrAt (p : List Fu) (f : Fr) : Option Instr :=
  if 0 ≤ f.pc then match (codeOf p f.fn)[f.pc.toNat]? with
    | some x => if thereX p f x then some x else none
    | none => none
  else none
def roomX (p : List Fu) (f : Fr) (x : Instr) : Bool :=
  decide (0 ≤ offP p x) && decide (offP p x ≤ f.stack.length) && (decide (on6 x.op = 0) || decide ((f.stack.length : Int) - offP p x + on6 x.op ≤ 16))
def endF (f : Fr) (o : Ou) : Fr × Ac := ({ f with state := 2, out := o }, acN 4)
def trapF (f : Fr) (c : Int) : Fr × Ac := endF f ⟨c, v0⟩
def popF (f : Fr) (n : Nat) : Fr := { f with stack := f.stack.take (f.stack.length - n) }
def topV (f : Fr) (n : Nat) : List Vl := f.stack.drop (f.stack.length - n)
def pushF (f : Fr) (l : List Vl) : Fr := { f with stack := f.stack ++ l }
def nextF (f : Fr) : Fr := { f with pc := f.pc + 1 }
def slotAt (f : Fr) (i : Int) : Slt := (f.slots[i.toNat]?).getD s0
def setSlot (f : Fr) (i : Int) (s : Slt) : Fr := { f with slots := f.slots.set i.toNat s }
def spawnF (p : List Fu) (f : Fr) (x : Instr) : Fr × Ac :=
  if (slotAt f x.b).state ≠ 0 then trapF f 2
  else ({ nextF (popF (setSlot f x.b ⟨1, noK, o0⟩) (offP p x).toNat) with spawned := IntKind.i64.wrap (f.spawned + 1) }, ⟨2, x.a, x.b, childI f.seed f.spawned, topV f (offP p x).toNat⟩)
def joinF (f : Fr) (x : Instr) : Fr × Ac :=
  if (slotAt f x.a).state = 1 then ({ f with state := 1, wait := x.a }, acN 3)
  else if (slotAt f x.a).state ≠ 2 then trapF f 2
  else if (slotAt f x.a).out.trap ≠ 0 then trapF (setSlot f x.a s0) (slotAt f x.a).out.trap
  else (nextF (pushF (setSlot f x.a s0) [(slotAt f x.a).out.v]), acN 1)
def a0 (f : Fr) (n : Nat) : Vl := ((topV f n)[0]?).getD v0
def a1 (f : Fr) (n : Nat) : Vl := ((topV f n)[1]?).getD v0
def twoF (f : Fr) (x : Instr) : Fr × Ac :=
  if x.op = 6 then match divG (a0 f 2) (a1 f 2) with
    | none => trapF f 1
    | some q => (nextF (pushF (popF f 2) [q]), acN 1)
  else (nextF (pushF (popF f 2) [if x.op = 3 then addG (a0 f 2) (a1 f 2) else if x.op = 4 then subG (a0 f 2) (a1 f 2) else mulG (a0 f 2) (a1 f 2)]), acN 1)
def plainF (f : Fr) (x : Instr) : Fr × Ac :=
  if x.op = 0 then (nextF (pushF f [ofG x.a x.b]), acN 1)
  else if x.op = 1 then (nextF (pushF f [(f.locals[x.a.toNat]?).getD v0]), acN 1)
  else if x.op = 2 then (nextF (popF { f with locals := f.locals.set x.a.toNat (a0 f 1) } 1), acN 1)
  else if x.op = 7 then (nextF (pushF (popF f 1) [conjG (a0 f 1)]), acN 1)
  else if x.op = 8 then (nextF (pushF (popF f 1) [a0 f 1, a0 f 1]), acN 1)
  else if x.op = 9 then (nextF (popF f 1), acN 1)
  else if x.op = 10 then ({ f with pc := x.a }, acN 1)
  else if x.op = 11 then (if (a0 f 1).red = v0 then { popF f 1 with pc := x.a } else nextF (popF f 1), acN 1)
  else (nextF { pushF f [drawV f.seed f.draws] with draws := IntKind.i64.wrap (f.draws + 1) }, acN 1)
def runX (p : List Fu) (f : Fr) (x : Instr) : Fr × Ac :=
  if x.op = 16 then trapF f x.a
  else if x.op = 15 then endF (popF f 1) ⟨0, a0 f 1⟩
  else if x.op = 13 then spawnF p f x
  else if x.op = 14 then joinF f x
  else if x.op = 3 ∨ x.op = 4 ∨ x.op = 5 ∨ x.op = 6 then twoF f x
  else plainF f x
/-- what an instruction does -/
def doF (p : List Fu) (f : Fr) : Fr × Ac :=
  if f.state ≠ 0 ∨ f.fn < 0 ∨ (p.length : Int) ≤ f.fn then (f, acN 0)
  else match instrAt p f with
    | none => trapF f 4
    | some x => if roomX p f x then runX p f x else trapF f 3
/-- a child's end is given -/
def giveF (f : Fr) (i : Int) (o : Ou) : Fr × Bool :=
  if i < 0 ∨ (f.slots.length : Int) ≤ i ∨ (slotAt f i).state ≠ 1 then (f, false)
  else (if f.state = 1 ∧ f.wait = i then { setSlot f i ⟨2, noK, o⟩ with state := 0, wait := 0 } else setSlot f i ⟨2, noK, o⟩, true)
def finT : List Slt → Option Int
  | [] => none
  | s :: l => if s.state = 2 ∧ s.out.trap ≠ 0 then some s.out.trap else finT l
/-- how a frame ends -/
def finF (f : Fr) : Ou × Bool :=
  if f.state ≠ 2 ∨ f.slots.any (fun s => s.state == 1) = true then (o0, false)
  else if f.out.trap ≠ 0 then (f.out, true)
  else match finT f.slots with
    | some c => (⟨c, v0⟩, true)
    | none => (f.out, true)
def newF (p : List Fu) (fn : Int) (args : List Vl) (s : Int) : Option Fr :=
  if mayP p = true ∧ 0 ≤ fn ∧ fn < p.length ∧ isS s = true then
    match p[fn.toNat]? with
    | none => none
    | some x => if x.arity ≤ x.locals ∧ (args.length : Int) = x.arity ∧ args.all Vl.may = true then
        some ⟨fn, 0, [], args ++ List.replicate (x.locals.toNat - args.length) v0, List.replicate x.slots.toNat s0, s, 0, 0, 0, 0, o0, noK, 0⟩
      else none
  else none
end Go.Proofs.YtghidjgejmmcmaaW.Md
