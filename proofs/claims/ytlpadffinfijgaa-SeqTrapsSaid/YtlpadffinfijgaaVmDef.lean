/- A machine of plain values: the program's code run over numbers, lists and structs; slices are lists, unless they are made and written by the function itself. Definitions and simple laws; no conditions. -/
import Derived.Calls
import Derived.Laws.Sem
import Derived.WalkKit
set_option linter.unusedVariables false
set_option linter.unusedSimpArgs false
namespace Go.Proofs.YtlpadffinfijgaaW.Vm
open Go

/-- A plain value. 'sl': a slice by its contents (z: the cells of an element), never written again; 'own', 'ptr': into an object of the machine's heap (number, version). -/
inductive D where
  | int (k : IntKind) (n : Int)
  | bool (b : Bool)
  | str (s : ByteArray)
  | flt (k : FloatKind) (b : Nat)
  | cpx (k : FloatKind) (re im : Nat)
  | agg (cs : List D)
  | tup (ds : List D)
  | nil
  | ptr (id ver i j : Nat)
  | fptr (z : Nat) (xs : List D) (i j : Nat)
  | sl (z : Nat) (xs : List D) (tight : Bool)
  | snil
  | own (z id ver off len : Nat)
  | clo (fn : Fn) (first captured : List D)
  | nilf
  | ifc (t : TypeId) (v : D)
  | nili
  | und
  deriving Inhabited

/-- An object: its version, the cells of an element, the elements; those below 'frz' are never written. -/
structure Ob where
  ver : Nat
  esz : Nat
  els : List D
  frz : Nat
  deriving Inhabited

structure St where
  σ : Nat → D
  h : List Ob
  n : Nat

def upd (σ : Nat → D) (t : Nat) (d : D) : Nat → D := fun u => if u = t then d else σ u
def put (s : St) : Option Nat → D → Option St
  | some t, d => if t < s.n then some { s with σ := upd s.σ t d } else none
  | none, _ => some s

def D.cells : D → List D
  | .agg cs => cs
  | d => [d]
def D.one : D → Bool
  | .agg _ | .tup _ | .und => false
  | _ => true

def ofVal1 : Value → Option D
  | .bool b => some (.bool b)
  | .int k n => some (.int k n)
  | .string s => some (.str s)
  | .float k b => some (.flt k b)
  | .complex k a b => some (.cpx k a b)
  | .pointer none => some .nil
  | .slice none 0 0 => some .snil
  | .nilFunc => some .nilf
  | .nilIface => some .nili
  | _ => none
def ofVals : List Value → Option (List D)
  | [] => some []
  | v :: vs => match ofVal1 v, ofVals vs with
    | some d, some ds => some (d :: ds)
    | _, _ => none
def ofVal : Value → Option D
  | .agg cs => (ofVals cs.toList).map .agg
  | v => ofVal1 v
/-- A number, a string, a truth value, or none of a kind, as the model's. -/
def scal : D → Option Value
  | .int k n => some (.int k n)
  | .bool b => some (.bool b)
  | .str s => some (.string s)
  | .flt k b => some (.float k b)
  | .cpx k a b => some (.complex k a b)
  | .nil => some (.pointer none)
  | .nilf => some .nilFunc
  | .nili => some .nilIface
  | _ => none

/-- What the model's own operation answers, if it looks at nothing but the program's types. -/
def semPure {α : Type} (P : Program) : Sem α → Option α
  | .pure a => some a
  | .program k => semPure P (k P)
  | _ => none

section
variable (P : Program)
def aggT (t : TypeId) : Option Bool := (P.underlying t).map fun | .struct _ | .array _ _ => true | _ => false
def szT (t : TypeId) : Option Nat := (P.info? t).map (·.size)
def byT (t : TypeId) : Option Nat := (P.info? t).map (·.bytes)
def zeroT (t : TypeId) : Option D := match (P.info? t).map (·.zero) with | some (some v) => ofVal v | _ => none
def elemT (t : TypeId) : Option TypeId := match P.underlying t with | some (.slice e) => some e | _ => none

/-- Is this a value of the type's form? -/
def fits (t : TypeId) (d : D) : Bool :=
  match aggT P t, szT P t with
  | some true, some s => (match d with | .agg cs => cs.length == s && cs.all D.one | _ => false)
  | some false, some 1 => d.one
  | _, _ => false

def ev (σ : Nat → D) : Operand → Option D
  | .tmp t => some (σ t)
  | .const v => ofVal v
  | .func f => some (.clo (.func f) [] [])
  | .global _ => none
def evs (σ : Nat → D) : List Operand → Option (List D)
  | [] => some []
  | x :: xs => match ev σ x, evs σ xs with
    | some d, some ds => some (d :: ds)
    | _, _ => none

/-! cells of an element, and of a list of elements -/
def ldEl (e : D) (j s : Nat) (ag : Bool) : Option D :=
  if ag then
    match e with
    | .agg cs => if j = 0 ∧ cs.length = s then some e else if j + s ≤ cs.length then some (.agg ((cs.drop j).take s)) else none
    | _ => none
  else e.cells[j]?
def ldEls (els : List D) (i j s : Nat) (ag : Bool) : Option D :=
  match els[i]? with
  | none => none
  | some e => ldEl e j s ag
def stEl (e : D) (j s : Nat) (ag : Bool) (v : D) : Option D :=
  if ag then
    match e, v with
    | .agg cs, .agg vs => if j = 0 ∧ cs.length = s then some v else if j + s ≤ cs.length then some (.agg (cs.take j ++ vs ++ cs.drop (j + s))) else none
    | _, _ => none
  else
    match e with
    | .agg cs => if j < cs.length then some (.agg (cs.set j v)) else none
    | .tup _ => none
    | _ => if j = 0 then some v else none
def stEls (els : List D) (i j s : Nat) (ag : Bool) (v : D) : Option (List D) :=
  match els[i]? with
  | none => none
  | some e => (stEl e j s ag v).map fun e' => els.set i e'

def ldD (h : List Ob) (t : TypeId) (p : D) : Option D :=
  match aggT P t, szT P t, p with
  | some ag, some s, .fptr _ xs i j => ldEls xs i j s ag
  | some ag, some s, .ptr id ver i j =>
    match h[id]? with
    | some o => if o.ver = ver then ldEls o.els i j s ag else none
    | none => none
  | _, _, _ => none
def stD (h : List Ob) (t : TypeId) (p v : D) : Option (List Ob) :=
  match aggT P t, szT P t, p with
  | some ag, some s, .ptr id ver i j =>
    if fits P t v then
      match h[id]? with
      | some o => if o.ver = ver ∧ o.frz ≤ i then (stEls o.els i j s ag v).map fun els => h.set id { o with els := els } else none
      | none => none
    else none
  | _, _, _ => none

/-- The elements of a slice. -/
def elsOf (h : List Ob) : D → Option (List D)
  | .snil => some []
  | .sl _ xs _ => some xs
  | .own z id ver off len =>
    match h[id]? with
    | some o => if o.ver = ver ∧ o.esz = z ∧ off + len ≤ o.els.length then some ((o.els.drop off).take len) else none
    | none => none
  | _ => none

/-- The elements of a slice of elements of sz cells. -/
def elsZ (h : List Ob) (sz : Nat) : D → Option (List D)
  | .snil => some []
  | .sl z xs _ => if z = sz then some xs else none
  | .own z id ver off len => if z = sz then elsOf h (.own z id ver off len) else none
  | _ => none

def lenS : D → Option Nat
  | .snil => some 0
  | .sl _ xs _ => some xs.length
  | .own _ _ _ _ len => some len
  | _ => none
/-! what leaves a function: no objects -/
mutual
def clean : D → Bool
  | .agg cs => cleans cs
  | .tup ds => cleans ds
  | .ptr .. | .own .. | .und => false
  | .clo _ a b => cleans a && cleans b
  | .ifc _ v => clean v
  | _ => true
def cleans : List D → Bool
  | [] => true
  | d :: ds => clean d && cleans ds
end
mutual
/-- no slices, pointers, functions -/
def flat : D → Bool
  | .int .. | .bool _ | .str _ | .flt .. | .cpx .. | .nil | .snil | .nilf | .nili => true
  | .agg cs => flats cs
  | .tup ds => flats ds
  | _ => false
def flats : List D → Bool
  | [] => true
  | d :: ds => flat d && flats ds
end
section
variable (inner : List D → Option (List D)) (h : List Ob)
mutual
def expG : D → Option D
  | .agg cs => (expsG cs).map .agg
  | .tup ds => (expsG ds).map .tup
  | .ptr .. | .und => none
  | .own z id ver off len =>
    match elsOf h (.own z id ver off len) with
    | some xs => match inner xs with
      | some ys => some (.sl z ys false)
      | none => none
    | none => none
  | .clo f a b => match expsG a, expsG b with
    | some a', some b' => some (.clo f a' b')
    | _, _ => none
  | .ifc t v => (expG v).map (.ifc t)
  | .sl z xs _ => some (.sl z xs false)
  | d => some d
def expsG : List D → Option (List D)
  | [] => some []
  | d :: ds => match expG d, expsG ds with
    | some d', some ds' => some (d' :: ds')
    | _, _ => none
end
end
/-- the elements of a slice that leaves -/
def expI : Nat → List Ob → List D → Option (List D)
  | 0, _, xs => if cleans xs then some xs else none
  | k + 1, h, xs => if cleans xs then some xs else
    match expsG (expI k h) h xs with
    | some ys => if cleans ys then some ys else none
    | none => none
def exp1 (h : List Ob) (d : D) : Option D := expG (expI 2 h) h d
def exps1 (h : List Ob) (ds : List D) : Option (List D) := expsG (expI 2 h) h ds
section
variable (inner : List D → List (Nat × Nat)) (h : List Ob)
mutual
/-- which elements are shared by what leaves -/
def marksG : D → List (Nat × Nat)
  | .agg cs => markssG cs
  | .tup ds => markssG ds
  | .own z id ver off len => (id, off + len) :: (match elsOf h (.own z id ver off len) with | some xs => inner xs | none => [])
  | .clo _ a b => markssG a ++ markssG b
  | .ifc _ v => marksG v
  | _ => []
def markssG : List D → List (Nat × Nat)
  | [] => []
  | d :: ds => marksG d ++ markssG ds
end
end
def marksI : Nat → List Ob → List D → List (Nat × Nat)
  | 0, _, _ => []
  | k + 1, h, xs => if cleans xs then [] else markssG (marksI k h) h xs
def marks (h : List Ob) (d : D) : List (Nat × Nat) := marksG (marksI 2 h) h d
def markss (h : List Ob) (ds : List D) : List (Nat × Nat) := markssG (marksI 2 h) h ds
def frzOb (h : List Ob) (m : Nat × Nat) : List Ob :=
  match h[m.1]? with
  | some o => h.set m.1 { o with frz := max o.frz m.2 }
  | none => h
def frzAll (h : List Ob) (ms : List (Nat × Nat)) : List Ob := ms.foldl frzOb h

/-! equality of structs of numbers, truth values and strings -/
/-- the kinds of a flat type's cells: 0 a truth value, 1 a number, 2 a string -/
def flatN (P : Program) : Nat → TypeId → Option (List Nat)
  | 0, _ => none
  | k + 1, t => match P.underlying t with
    | some .bool => some [0]
    | some (.int _) => some [1]
    | some .string => some [2]
    | some (.struct fs) => if P.stoodInHeld t then none else fs.toList.foldl (fun acc f => match acc, flatN P k f.type with
      | some a, some n => if f.offset = a.length ∧ f.name ≠ "_" ∧ szT P f.type = some n.length then some (a ++ n) else none
      | _, _ => none) (some [])
    | _ => none
def flatT (P : Program) (t : TypeId) : Option (List Nat) := if P.eqGuardType P.depth t || aggT P t != some true then none else flatN P 20 t
def scalEq : Nat → D → D → Option Bool
  | 0, .bool a, .bool b => some (a == b)
  | 1, .int k a, .int k' b => if k = k' then some (a == b) else none
  | 2, .str a, .str b => some (a.toList == b.toList)
  | _, _, _ => none
def scalsEq : List Nat → List D → List D → Option Bool
  | [], [], [] => some true
  | k :: ks, a :: as, b :: bs => match scalEq k a b, scalsEq ks as bs with
    | some x, some y => some (x && y)
    | _, _ => none
  | _, _, _ => none
def eqD (t : TypeId) : D → D → Option Bool
  | .agg a, .agg b => match flatT P t with | some ks => scalsEq ks a b | none => none
  | .snil, .snil => (elemT P t).map fun _ => true
  | .snil, .sl .. | .sl .., .snil | .snil, .own .. | .own .., .snil => (elemT P t).map fun _ => false
  | .nil, .ptr .. | .ptr .., .nil | .nil, .fptr .. | .fptr .., .nil => match P.underlying t with | some (.pointer _) => some false | _ => none
  | .nilf, .clo .. | .clo .., .nilf => match P.underlying t with | some (.func ..) => some false | _ => none
  | .nili, .ifc .. | .ifc .., .nili => match P.underlying t with | some (.interface _) => some false | _ => none
  | _, _ => none
def binD (op : BinOp) (t : TypeId) (x y : Operand) (a b : D) : Option D :=
  match scal a, scal b with
  | some u, some v => match semPure P (do eqGuard op t x y u v; binOp op t u v) with
    | some r => ofVal1 r
    | none => none
  | _, _ => match op with
    | .eql => (eqD P t a b).map .bool
    | .neq => (eqD P t a b).map fun r => .bool !r
    | _ => none
def pure1 (s : Sem Value) : Option D := match semPure P s with | some r => ofVal1 r | none => none

/-- bytes -/
def bytesD : List D → Option (List Int)
  | [] => some []
  | .int .u8 n :: ds => (bytesD ds).map (n :: ·)
  | _ => none
/-- bytes to a string -/
def b2sD (s d : TypeId) : D → Option D
  | .sl 1 xs _ => match elemT P s, P.underlying d with
    | some e, some .string => match P.underlying e with
      | some (.int .u8) => (bytesD xs).map fun ns => .str (ns.foldl (fun r n => r.push (UInt8.ofNat n.toNat)) ByteArray.empty)
      | _ => none
    | _, _ => none
  | _ => none
def natD : D → Option Nat
  | .int _ n => if 0 ≤ n then some n.toNat else none
  | _ => none
def idxD (n : Nat) : D → Option Nat
  | .int _ i => if 0 ≤ i ∧ i < n then some i.toNat else none
  | _ => none
def bndD (n dflt : Nat) : Option D → Option Nat
  | none => some dflt
  | some (.int _ i) => if 0 ≤ i ∧ i ≤ n then some i.toNat else none
  | _ => none
def evo (σ : Nat → D) : Option Operand → Option (Option D)
  | none => some none
  | some x => (ev σ x).map some

def fieldT (t : TypeId) (f : Nat) : Option Field := match P.underlying t with | some (.struct fs) => fs[f]? | _ => none
def fieldAddrD (t : TypeId) (f : Nat) (p : D) : Option D :=
  match fieldT P t f with
  | some fd => match szT P fd.type with
    | some s => if s = 0 then none else match p with
      | .ptr id ver i j => some (.ptr id ver i (j + fd.offset))
      | .fptr z xs i j => some (.fptr z xs i (j + fd.offset))
      | _ => none
    | none => none
  | none => none
/-- a part of a struct's or array's cells -/
def partD (t : TypeId) (cs : List D) (off : Nat) : Option D :=
  match aggT P t, szT P t with
  | some true, some s => if off + s ≤ cs.length then some (.agg ((cs.drop off).take s)) else none
  | some false, _ => cs[off]?
  | _, _ => none
def fieldD (t : TypeId) (f : Nat) (x : D) : Option D :=
  match fieldT P t f, x with
  | some fd, .agg cs => partD P fd.type cs fd.offset
  | _, _ => none
def indexAddrD (t : TypeId) (x ix : D) : Option D :=
  match P.underlying t, x with
  | some (.slice e), .own z id ver off len => if szT P e = some z then (idxD len ix).map fun i => .ptr id ver (off + i) 0 else none
  | some (.slice e), .sl z xs _ => if szT P e = some z then (idxD xs.length ix).map fun i => .fptr z xs i 0 else none
  | some (.array n e), .ptr id ver i j => match szT P e with
    | some s => (idxD n ix).map fun q => .ptr id ver i (j + q * s)
    | none => none
  | some (.array n e), .fptr z xs i j => match szT P e with
    | some s => (idxD n ix).map fun q => .fptr z xs i (j + q * s)
    | none => none
  | _, _ => none
def indexD (t : TypeId) (x ix : D) : Option D :=
  match P.underlying t, x with
  | some (.array n e), .agg cs => match szT P e, idxD n ix with
    | some s, some q => partD P e cs (q * s)
    | _, _ => none
  | some .string, .str s => match idxD s.size ix with
    | some i => match s[i]? with | some b => some (.int .u8 b.toNat) | none => none
    | none => none
  | _, _ => none
def fillD (size : Nat) (ag : Bool) : List D → List (Nat × D) → Option (List D)
  | els, [] => some els
  | els, (i, v) :: rest => if i < els.length ∧ v.cells.length = size ∧ (v.one = !ag) ∧ v.cells.all D.one = true then fillD size ag (els.set i v) rest else none
/-- a struct's cells, part by part -/
def buildS (P : Program) (fs : Array Field) : List D → List (Nat × D) → Option (List D)
  | cs, [] => some cs
  | cs, (i, v) :: rest =>
    match fs[i]? with
    | some f => match szT P f.type with
      | some s => if v.cells.length = s ∧ f.offset + s ≤ cs.length ∧ v.cells.all D.one = true then buildS P fs (cs.take f.offset ++ v.cells ++ cs.drop (f.offset + s)) rest else none
      | none => none
    | none => none
def buildA (size : Nat) : List D → List (Nat × D) → Option (List D)
  | cs, [] => some cs
  | cs, (i, v) :: rest =>
    if v.cells.length = size ∧ i * size + size ≤ cs.length ∧ v.cells.all D.one = true then buildA size (cs.take (i * size) ++ v.cells ++ cs.drop (i * size + size)) rest else none
def evps (σ : Nat → D) : List (Nat × Operand) → Option (List (Nat × D))
  | [] => some []
  | (i, x) :: xs => match ev σ x, evps σ xs with
    | some d, some ds => some ((i, d) :: ds)
    | _, _ => none
def buildD (t : TypeId) (ps : List (Nat × D)) : Option D :=
  match zeroT P t, P.underlying t with
  | some (.agg z), some (.struct fs) => if fs.all fun f => (szT P f.type).isSome then (buildS P fs z ps).map .agg else none
  | some (.agg z), some (.array _ e) => match szT P e with
    | some s => (buildA s z ps).map .agg
    | none => none
  | _, _ => none

def big : Nat := 2 ^ 47
def newOb (h : List Ob) (esz : Nat) (els : List D) : List Ob := h ++ [⟨0, esz, els, 0⟩]

def sliceD (h : List Ob) (t : TypeId) (x : D) (lo hi mx : Option D) : Option (D × List Ob) :=
  match P.underlying t, x with
  | some .string, .str s => match mx, bndD s.size s.size hi with
    | none, some b => match bndD b 0 lo with
      | some a => some (.str (s.extract a b), h)
      | none => none
    | _, _ => none
  | some (.slice e), .snil => match szT P e, bndD 0 0 mx, bndD 0 0 hi, bndD 0 0 lo with
    | some _, some _, some _, some _ => if mx.isSome = true → hi.isSome = true then some (.snil, h) else none
    | _, _, _, _ => none
  | some (.slice e), .sl z xs tg => match bndD xs.length xs.length mx with
    | some m => match bndD m xs.length hi with
      | some b => if szT P e = some z ∧ b ≤ xs.length ∧ (mx.isSome = true → hi.isSome = true) then match bndD b 0 lo with
        | some a => some (.sl z ((xs.take b).drop a) (if mx.isSome then m == b else tg && b == xs.length), h)
        | none => none
        else none
      | none => none
    | none => none
  | some (.slice e), .own z id ver off len => match bndD len len mx with
    | some m => match bndD m len hi with
      | some b => if szT P e = some z ∧ b ≤ len ∧ (mx.isSome = true → hi.isSome = true) then match bndD b 0 lo with
        | some a => some (.own z id ver (off + a) (b - a), h)
        | none => none
        else none
      | none => none
    | none => none
  | some (.array n e), .ptr id ver 0 0 => match szT P e, aggT P e, h[id]?, lo, hi, mx with
    | some s, some ag, some o, none, none, none =>
      (match o.els with
        | [.agg cs] => if o.ver = ver ∧ o.frz = 0 ∧ cs.length = n * s ∧ 0 < s ∧ (ag = true ∨ s = 1) then
            some (.own s id (ver + 1) 0 n, h.set id { o with ver := ver + 1, esz := s, els := (List.range n).map fun q => if ag then .agg ((cs.drop (q * s)).take s) else cs.getD q .und })
          else none
        | _ => none)
    | _, _, _, _, _, _ => none
  | _, _ => none

def zeroOk (e : TypeId) : Bool := match zeroT P e with | some z => fits P e z | none => false
/-- what is appended -/
def appNew (h : List Ob) (argTypes : Array TypeId) (sz : Nat) (ag : Bool) (x : D) : Option (List D) :=
  match argTypes[1]? with
  | some xt => match P.underlying xt, x with
    | some (.slice e'), x => if szT P e' = some sz then elsZ h sz x else none
    | some .string, .str b => if sz = 1 ∧ ag = false then some (b.data.toList.map fun (c : UInt8) => .int .u8 c.toNat) else none
    | _, _ => none
  | none => none
def appendD (h : List Ob) (argTypes : Array TypeId) (s x : D) : Option (D × List Ob) :=
  match argTypes[0]? with
  | none => none
  | some st => match elemT P st with
    | none => none
    | some e => match szT P e, byT P e, elsZ h ((szT P e).getD 0) s, aggT P e with
      | some sz, some by_, some old, some ag =>
        match appNew P h argTypes sz ag x with
        | none => none
        | some new =>
          if (old.length + new.length) * by_ ≤ big ∧ 0 < by_ ∧ 0 < sz ∧ zeroOk P e = true then
            if new.length = 0 then some (s, h)
            else match s with
              | .snil => some (.own sz h.length 0 0 new.length, newOb h sz new)
              | .sl _ xs true => some (.own sz h.length 0 0 (xs.length + new.length), newOb h sz (xs ++ new))
              | .own _ id ver off len => match h[id]? with
                | some o => if o.frz ≤ off + len then some (.own sz id (ver + 1) 0 (len + new.length), h.set id { o with ver := ver + 1, els := old ++ new, frz := o.frz - off }) else none
                | none => none
              | _ => none
          else none
      | _, _, _, _ => none

def copyD (h : List Ob) (argTypes : Array TypeId) (dst src : D) : Option (D × List Ob) :=
  match argTypes[0]? with
  | none => none
  | some dt => match elemT P dt with
    | none => none
    | some e => match szT P e, lenS dst, elsZ h ((szT P e).getD 0) src with
      | some sz, some dl, some xs =>
        let n := Nat.min xs.length dl
        if n = 0 then some (.int .i64 0, h)
        else match dst with
          | .own z id ver off len => match h[id]? with
            | some o => if o.ver = ver ∧ z = sz ∧ o.frz ≤ off ∧ off + len ≤ o.els.length ∧ o.esz = sz then
                some (.int .i64 n, h.set id { o with els := o.els.take off ++ xs.take n ++ o.els.drop (off + n) }) else none
            | none => none
          | _ => none
      | _, _, _ => none

def makeSliceD (h : List Ob) (t : TypeId) (l c : D) : Option (D × List Ob) :=
  match elemT P t with
  | none => none
  | some e => match szT P e, byT P e, zeroT P e, natD l, natD c with
    | some sz, some by_, some z, some l, some c =>
      if l ≤ c ∧ c * by_ ≤ big ∧ 0 < by_ ∧ 0 < sz ∧ c ≤ big ∧ fits P e z = true then some (.own sz h.length 0 0 l, newOb h sz (List.replicate l z)) else none
    | _, _, _, _, _ => none

def builtinD (h : List Ob) (b : Builtin) (argTypes : Array TypeId) (type : TypeId) (args : List D) : Option (D × List Ob) :=
  match b, args with
  | .len, [x] => match argTypes[0]? with
    | some t => match P.underlying t, x with
      | some (.array n _), _ => some (.int .i64 n, h)
      | some (.slice _), x => (lenS x).map fun (n : Nat) => (D.int .i64 (n : Int), h)
      | some .string, .str s => some (.int .i64 s.size, h)
      | _, _ => none
    | none => none
  | .append, [s, x] => appendD P h argTypes s x
  | .copy, [d, s] => copyD P h argTypes d s
  | .min, [.int k a, .int k' b] => some (.int k (if b < a then b else a), h)
  | .max, [.int k a, .int k' b] => some (.int k (if a < b then b else a), h)
  | .real, [x] => match scal x with | some v => (pure1 P (Builtin.real_ argTypes type #[v])).map fun d => (d, h) | none => none
  | .imag, [x] => match scal x with | some v => (pure1 P (Builtin.imag_ argTypes type #[v])).map fun d => (d, h) | none => none
  | .complex, [x, y] => match scal x, scal y with | some v, some u => (pure1 P (Builtin.complex_ argTypes type #[v, u])).map fun d => (d, h) | _, _ => none
  | _, _ => none
end

/-- Which functions are run on the caller's objects; which have a law of their own. -/
structure Cfg where
  shared : FuncId → Bool
  ext : FuncId → Option (List D → Option D)
  /-- nothing of the caller's is shared by a call with values alone -/
  nomark : Bool := false
  /-- which slices that are written out are never written -/
  lit : TypeId → Nat → Bool := fun _ _ => false

inductive Ex where
  | normal
  | exit (id : Nat)
  | goto (l : Nat)
  | ret
  deriving DecidableEq

section
variable (P : Program) (cfg : Cfg)
abbrev Run := Code → St → Option (Ex × St)

def results (fn : Func) (st : St) : Option D :=
  let one : ResultVar → Option D
    | .tmp t => some (st.σ t)
    | .cell a t => ldD P st.h t (st.σ a)
  match fn.results.toList with
  | [r] => one r
  | [] => some (.tup [])
  | [r, s] => match one r, one s with | some a, some b => some (.tup [a, b]) | _, _ => none
  | [r, s, t] => match one r, one s, one t with | some a, some b, some c => some (.tup [a, b, c]) | _, _, _ => none
  | [r, s, t, u] => match one r, one s, one t, one u with | some a, some b, some c, some d => some (.tup [a, b, c, d]) | _, _, _, _ => none
  | _ => none

def argsσ (args : List D) : Nat → D := fun t => args.getD t .und
/-- a function's body, on some objects -/
def body (run : Run) (f : FuncId) (args : List D) (h : List Ob) : Option (D × List Ob) :=
  match P.funcs[f]? with
  | none => none
  | some fn =>
    match fn.body with
    | none => none
    | some c => if fn.name == "runtime.NumGoroutine" then none else
      match run c ⟨argsσ args, h, max args.length fn.ntmps⟩ with
      | some (.normal, st) | some (.ret, st) => (results P fn st).map fun d => (d, st.h)
      | _ => none
/-- a call with values alone -/
def fnc (run : Run) (f : FuncId) (args : List D) : Option D :=
  match cfg.ext f with
  | some g => g args
  | none => match body P run f args [] with
    | some (d, h) => match exp1 h d with
      | some r => if clean r then some r else none
      | none => none
    | none => none
def callD (run : Run) (h : List Ob) (f : FuncId) (args : List D) : Option (D × List Ob) :=
  if cfg.shared f then body P run f args h
  else match exps1 h args with
    | some as => if cleans as then
        match fnc P cfg run f as with
        | some r => if flat r then some (r, h) else if cfg.nomark = true ∧ (markss h args).isEmpty = false then none else some (r, frzAll h (markss h args))
        | none => none
      else none
    | none => none

def opD (run : Run) (o : Oper) (st : St) : Option (D × List Ob) :=
  let σ := st.σ
  let h := st.h
  match o.op with
  | .move x | .assign x => (ev σ x).map fun d => (d, h)
  | .pick c a b => match ev σ c with
    | some (.bool true) => (ev σ a).map fun d => (d, h)
    | some (.bool false) => (ev σ b).map fun d => (d, h)
    | _ => none
  | .alloc t => match zeroT P t, szT P t with
    | some z, some s => if fits P t z ∧ 0 < s then some (.ptr h.length 0 0 0, newOb h s [z]) else none
    | _, _ => none
  | .box t x => match ev σ x, szT P t with
    | some d, some s => if fits P t d ∧ 0 < s then some (.ptr h.length 0 0 0, newOb h s [d]) else none
    | _, _ => none
  | .build t ps => match evps σ ps.toList with
    | some ds => (buildD P t ds).map fun d => (d, h)
    | none => none
  | .buildSlice t n ps => match evps σ ps.toList, elemT P t with
    | some ds, some e => match szT P e, aggT P e, zeroT P e with
      | some s, some ag, some z => if n * s ≤ 2 ^ 24 ∧ fits P e z ∧ 0 < s then
          if cfg.lit t n then (fillD s ag (List.replicate n z) ds).bind fun els => if cleans els then some (.sl s els (n == 0), h) else none
          else (fillD s ag (List.replicate n z) ds).map fun els => (.own s h.length 0 0 n, newOb h s els)
        else none
      | _, _, _ => none
    | _, _ => none
  | .load t a => match ev σ a with
    | some p => (ldD P h t p).map fun d => (d, h)
    | none => none
  | .store t a x => match ev σ a, ev σ x with
    | some p, some v => (stD P h t p v).map fun h' => (.und, h')
    | _, _ => none
  | .nilCheck x => match ev σ x with
    | some (.ptr id ver i j) => some (.ptr id ver i j, h)
    | some (.fptr z xs i j) => some (.fptr z xs i j, h)
    | _ => none
  | .binOp op t x y _ => match ev σ x, ev σ y with
    | some a, some b => (binD P op t x y a b).map fun d => (d, h)
    | _, _ => none
  | .unOp op _ x => match ev σ x with
    | some a => match scal a with
      | some v => (pure1 P (Op.unary op v)).map fun d => (d, h)
      | none => none
    | none => none
  | .convert s d x => match ev σ x with
    | some a => match scal a with
      | some v => (pure1 P (convert s d v)).map fun d => (d, h)
      | none => (b2sD P s d a).map fun d => (d, h)
    | none => none
  | .makeInterface t x => match ev σ x, P.underlying t with
    | some d, some u => match u with
      | .interface _ => none
      | _ => some (.ifc t d, h)
    | _, _ => none
  | .makeFunc f a b => match evs σ a.toList, evs σ b.toList with
    | some a', some b' => some (.clo f a' b', h)
    | _, _ => none
  | .makeSlice t l c => match ev σ l, ev σ c with
    | some a, some b => makeSliceD P h t a b
    | _, _ => none
  | .slice t x lo hi mx => match ev σ x, evo σ lo, evo σ hi, evo σ mx with
    | some d, some a, some b, some c => sliceD P h t d a b c
    | _, _, _, _ => none
  | .fieldAddr t x f => match ev σ x with
    | some p => (fieldAddrD P t f p).map fun d => (d, h)
    | none => none
  | .field t x f => match ev σ x with
    | some p => (fieldD P t f p).map fun d => (d, h)
    | none => none
  | .indexAddr t x i => match ev σ x, ev σ i with
    | some p, some q => (indexAddrD P t p q).map fun d => (d, h)
    | _, _ => none
  | .index t x i => match ev σ x, ev σ i with
    | some p, some q => (indexD P t p q).map fun d => (d, h)
    | _, _ => none
  | .extract x i => match ev σ x with
    | some (.tup ds) => match ds[i]? with
      | some d => some (d, h)
      | none => none
    | _ => none
  | .call c => match c.callee, evs σ c.args.toList with
    | .builtin b, some args => builtinD P h b c.argTypes o.type args
    | .value f, some args => match ev σ f with
      | some (.clo (.func g) first captured) => callD P cfg run h g (first ++ args ++ captured)
      | _ => none
    | _, _ => none
  | _ => none

def wantD (ops : Array Oper) (o : Oper) (σ : Nat → D) : Option Bool :=
  match o.guard with
  | none => some true
  | some (j, want) => match (ops[j]?).bind (·.dst) with
    | some t => match σ t with
      | .bool b => some (b == want)
      | .tup [] => some false
      | _ => none
    | none => none
def stepD (run : Run) (ops : Array Oper) (o : Oper) (st : St) : Option St :=
  match wantD ops o st.σ with
  | some true => match opD P cfg run o st with
    | some (d, h) => put { st with h := h } o.dst d
    | none => none
  | some false => put st o.dst (.tup [])
  | none => none
def opsD (run : Run) (ops : Array Oper) : List Oper → St → Option St
  | [], st => some st
  | o :: os, st => match stepD P cfg run ops o st with
    | some st' => opsD run ops os st'
    | none => none
end
/-! regions whose order is open: run in the order of the text; what is loaded must not hang on the order -/
mutual
def beq : D → D → Bool
  | .int k n, .int k' n' => k == k' && n == n'
  | .bool a, .bool b => a == b
  | .str a, .str b => a.data == b.data
  | .flt k a, .flt k' b => k == k' && a == b
  | .cpx k a b, .cpx k' c d => k == k' && a == c && b == d
  | .agg a, .agg b => beqs a b
  | .tup a, .tup b => beqs a b
  | .nil, .nil => true
  | .ptr a b c d, .ptr a' b' c' d' => a == a' && b == b' && c == c' && d == d'
  | .sl z a t, .sl z' b u => z == z' && t == u && beqs a b
  | .snil, .snil => true
  | .own z a b c d, .own z' a' b' c' d' => z == z' && a == a' && b == b' && c == c' && d == d'
  | .nilf, .nilf => true
  | .nili, .nili => true
  | _, _ => false
def beqs : List D → List D → Bool
  | [], [] => true
  | a :: as, b :: bs => beq a b && beqs as bs
  | _, _ => false
end
def beqo : Option D → Option D → Bool
  | some a, some b => beq a b
  | _, _ => false

section
variable (P : Program)
def isE (o : Oper) : Bool :=
  match o.op with
  | .store .. => true
  | .slice t .. => match P.underlying t with | some (.array ..) => true | _ => false
  | .call c => match c.callee with
    | .builtin .len | .builtin .min | .builtin .max | .builtin .real | .builtin .imag | .builtin .complex => false
    | _ => true
  | _ => false
def isL (o : Oper) : Bool := match o.op with | .load .. => true | _ => false
def isA (cfg : Cfg) (o : Oper) : Bool := match o.op with | .alloc .. | .box .. | .makeSlice .. => true | .buildSlice t n _ => !cfg.lit t n | _ => false
/-- may it write objects? -/
def loud (cfg : Cfg) (o : Oper) : Bool :=
  isE P o && match o.op with
    | .call c => match c.callee with
      | .value (.func g) => cfg.shared g
      | _ => true
    | _ => true
def ordered (bs : Array Nat) (i j : Nat) : Bool := (bs.getD (max i j) 0).testBit (min i j)
/-- may the region be run in the text's order? Then the pairs (load, effect) that no edge orders. -/
def drawInfo (cfg : Cfg) (ops : Array Oper) : Option (List (Nat × Nat)) :=
  let bs := Region.before ops
  let l := ops.toList.zipIdx
  if (l.all fun (x, i) => x.after.all fun e => !Region.binds .any e || e.on < i) &&
     (l.all fun (x, i) => l.all fun (y, j) => !(i < j) || (bs.getD j 0).testBit i || (!(isE P x && isE P y) && Oper.apart ops x y && !(isA cfg x && loud P cfg y)))
  then some ((l.filter fun (x, _) => isL x).flatMap fun (_, i) => (l.filter fun (y, j) => loud P cfg y && !ordered bs i j).map fun (_, j) => (i, j))
  else none
end

structure LdR where
  i : Nat
  t : TypeId
  p : D
structure EfR where
  j : Nat
  a : List Ob
  b : List Ob

section
variable (P : Program) (cfg : Cfg)
def logL (o : Oper) (i : Nat) (st : St) (ls : List LdR) : List LdR :=
  match o.op with
  | .load t a => match ev st.σ a with
    | some (.ptr id ver k j) => ⟨i, t, .ptr id ver k j⟩ :: ls
    | _ => ls
  | _ => ls
def drawOps (run : Run) (ops : Array Oper) : List (Oper × Nat) → St → List LdR → List EfR → Option (St × List LdR × List EfR)
  | [], st, ls, es => some (st, ls, es)
  | (o, i) :: os, st, ls, es => match wantD ops o st.σ, stepD P cfg run ops o st with
    | some w, some st' => drawOps run ops os st' (if w then logL o i st ls else ls) (if w && loud P cfg o then ⟨i, st.h, st'.h⟩ :: es else es)
    | _, _ => none
def drawChk (un : List (Nat × Nat)) (ls : List LdR) (es : List EfR) : Bool :=
  ls.all fun l => es.all fun e => !un.contains (l.i, e.j) || beqo (ldD P e.a l.t l.p) (ldD P e.b l.t l.p)
def regionD (run : Run) (ops : Array Oper) (draw : Bool) (st : St) : Option St :=
  if draw then
    match drawInfo P cfg ops with
    | some un => match drawOps P { cfg with nomark := true } run ops ops.toList.zipIdx st [] [] with
      | some (st', ls, es) => if drawChk P un ls es then some st' else none
      | none => none
    | none => none
  else opsD P cfg run ops ops.toList st

def scopeD (run : Run) (body : Code) : Nat → Code → St → Option (Ex × St)
  | 0, _, _ => none
  | m + 1, c, st => match run c st with
    | some (.goto l, st') => match findLabel body l with
      | some rest => scopeD run body m rest st'
      | none => some (.goto l, st')
    | r => r
def exec : Nat → Run
  | 0, _, _ => none
  | k + 1, c, st => match c with
    | .skip | .label _ => some (.normal, st)
    | .region _ ops draw => (regionD P cfg (exec k) ops draw st).map fun s => (.normal, s)
    | .seq a b => match exec k a st with
      | some (.normal, st') => exec k b st'
      | r => r
    | .cond x a b => match ev st.σ x with
      | some (.bool true) => exec k a st
      | some (.bool false) => exec k b st
      | _ => none
    | .block id b => match exec k b st with
      | some (.exit i, st') => some (if i = id then .normal else .exit i, st')
      | r => r
    | .loop b => match exec k b st with
      | some (.normal, st') => exec k (.loop b) st'
      | r => r
    | .scope b => scopeD (exec k) b k b st
    | .exit id => some (.exit id, st)
    | .goto l => some (.goto l, st)
    | .ret => some (.ret, st)
    | _ => none
end
end Go.Proofs.YtlpadffinfijgaaW.Vm
