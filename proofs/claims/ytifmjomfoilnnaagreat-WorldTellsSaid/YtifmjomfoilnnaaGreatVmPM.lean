/- Pens, as plain lists. No conditions. -/
import Derived.Test.YtifmjomfoilnnaaGreatVmMM
import Derived.Test.YtifmjomfoilnnaaGreatVmSX
set_option linter.unusedVariables false
set_option linter.unusedSimpArgs false
namespace Go.Proofs.YtifmjomfoilnnaaGreatW.Md
open Go.Proofs.YtifmjomfoilnnaaGreatW.Vm
/-- a frame, and how its lists lie -/
structure Fx where
  f : Fr
  a : Option (List Vl)
  b : Option (List Vl)
  z : Option (List Slt)
  ha : a.getD [] = f.stack
  hb : b.getD [] = f.locals
  hz : z.getD [] = f.slots
structure Ce where
  gen : Int
  used : Bool
  x : Fx
def fx0 : Fx := ⟨⟨0, 0, [], [], [], 0, 0, 0, 0, 0, o0, ⟨0, 0⟩, 0⟩, none, none, none, rfl, rfl, rfl⟩
def ce0 (g : Int) : Ce := ⟨g, false, fx0⟩
structure Pn where
  cells : List Ce
  free : List Int
  most : Int
/-- the numbers of the cells that are not used -/
def freeOf : Nat → List Ce → List Int
  | _, [] => []
  | i, c :: l => if c.used = true then freeOf (i + 1) l else (i : Int) :: freeOf (i + 1) l
def genOk (c : Ce) : Bool := decide (0 ≤ c.gen) && decide (c.gen ≤ 4294967295)
def headPn (p : Pn) : Bool := decide (1 ≤ p.most) && decide (p.most ≤ 1024) && decide ((p.cells.length : Int) ≤ p.most)
def mayPn (p : Pn) : Bool := headPn p && (p.cells.all genOk && decide (freeOf 0 p.cells = isortZ p.free))
def cellAt (p : Pn) (i : Int) : Ce := (p.cells[i.toNat]?).getD (ce0 0)
def heldPn (p : Pn) (r : Rf) : Bool := decide (0 ≤ r.ag) && decide (r.ag < p.cells.length) && (cellAt p r.ag).used && decide ((cellAt p r.ag).gen = r.gen)
def getPn (p : Pn) (r : Rf) : Option Fx := if mayPn p = true ∧ heldPn p r = true then some (cellAt p r.ag).x else none
def lastZ (l : List Int) : Int := (l.getLast?).getD 0
def layPn (p : Pn) (x : Fx) : Pn × Rf × Int :=
  if mayPn p = false then (p, ⟨0, 0⟩, 1)
  else if p.free = [] then
    if (p.cells.length : Int) = p.most then (p, ⟨0, 0⟩, 120)
    else (⟨p.cells ++ [⟨0, true, x⟩], [], p.most⟩, ⟨p.cells.length, 0⟩, 0)
  else (⟨p.cells.set (lastZ p.free).toNat ⟨(cellAt p (lastZ p.free)).gen, true, x⟩, p.free.dropLast, p.most⟩, ⟨lastZ p.free, (cellAt p (lastZ p.free)).gen⟩, 0)
def setPn (p : Pn) (r : Rf) (x : Fx) : Pn × Int :=
  if mayPn p = false then (p, 1) else if heldPn p r = false then (p, 121)
  else (⟨p.cells.set r.ag.toNat ⟨r.gen, true, x⟩, p.free, p.most⟩, 0)
def dropPn (p : Pn) (r : Rf) : Pn × Int :=
  if mayPn p = false then (p, 1) else if heldPn p r = false then (p, 121)
  else (⟨p.cells.set r.ag.toNat ⟨(r.gen + 1) % 4294967296, false, fx0⟩, p.free ++ [r.ag], p.most⟩, 0)
def usedOf : Nat → List Ce → List Rf
  | _, [] => []
  | i, c :: l => if c.used = true then ⟨(i : Int), c.gen⟩ :: usedOf (i + 1) l else usedOf (i + 1) l
def refsPn (p : Pn) : List Rf := if mayPn p = true then usedOf 0 p.cells else []
def newPn (m : Int) : Option Pn := if 1 ≤ m ∧ m ≤ 1024 then some ⟨[], [], m⟩ else none
def cellK (c : Ce) : Int × Bool × Fr := (c.gen, c.used, c.x.f)
def samePn (p q : Pn) : Bool := decide (p.most = q.most) && decide (p.free = q.free) && decide (p.cells.map cellK = q.cells.map cellK)
/-! the free numbers -/
theorem freeOf_bnd : ∀ (l : List Ce) (i : Nat) {n : Int}, n ∈ freeOf i l → (i : Int) ≤ n ∧ n < i + l.length
  | [], _, _, h => by simp [freeOf] at h
  | c :: l, i, n, h => by
    unfold freeOf at h
    split at h
    · have := freeOf_bnd l (i + 1) h; simp; omega
    · rcases List.mem_cons.1 h with rfl | h
      · simp; omega
      · have := freeOf_bnd l (i + 1) h; simp; omega
theorem freeOf_sorted : ∀ (l : List Ce) (i : Nat), (freeOf i l).Pairwise (· < ·)
  | [], _ => .nil
  | c :: l, i => by
    unfold freeOf
    split
    · exact freeOf_sorted l (i + 1)
    · exact List.pairwise_cons.2 ⟨fun n hn => by have := freeOf_bnd l (i + 1) hn; omega, freeOf_sorted l (i + 1)⟩
theorem freeOf_mem : ∀ (l : List Ce) (i : Nat) (n : Int), n ∈ freeOf i l ↔ ∃ k c, l[k]? = some c ∧ c.used = false ∧ n = (i : Int) + (k : Nat)
  | [], i, n => by simp [freeOf]
  | c :: l, i, n => by
    have ih := freeOf_mem l (i + 1) n
    unfold freeOf
    constructor
    · intro h
      split at h
      · obtain ⟨k, d, h1, h2, h3⟩ := ih.1 h
        exact ⟨k + 1, d, by simpa using h1, h2, by rw [h3]; push_cast; omega⟩
      · rename_i hc
        rcases List.mem_cons.1 h with rfl | h
        · exact ⟨0, c, rfl, by simpa using hc, by simp⟩
        · obtain ⟨k, d, h1, h2, h3⟩ := ih.1 h
          exact ⟨k + 1, d, by simpa using h1, h2, by rw [h3]; push_cast; omega⟩
    · rintro ⟨k, d, h1, h2, h3⟩
      cases k with
      | zero =>
        simp only [List.getElem?_cons_zero, Option.some.injEq] at h1
        subst h1
        rw [if_neg (by simp [h2])]
        exact List.mem_cons.2 (.inl (by rw [h3]; simp))
      | succ k =>
        have : n ∈ freeOf (i + 1) l := ih.2 ⟨k, d, by simpa using h1, h2, by rw [h3]; push_cast; omega⟩
        split
        · exact this
        · exact List.mem_cons.2 (.inr this)
theorem freeOf_app : ∀ (l m : List Ce) (i : Nat), freeOf i (l ++ m) = freeOf i l ++ freeOf (i + l.length) m
  | [], m, i => by simp [freeOf]
  | c :: l, m, i => by
    have ih := freeOf_app l m (i + 1)
    have e : i + 1 + l.length = i + (c :: l).length := by simp; omega
    rw [e] at ih
    rw [List.cons_append, show freeOf i (c :: (l ++ m)) = (if c.used = true then freeOf (i + 1) (l ++ m) else (i : Int) :: freeOf (i + 1) (l ++ m)) from rfl, show freeOf i (c :: l) = (if c.used = true then freeOf (i + 1) l else (i : Int) :: freeOf (i + 1) l) from rfl, ih]
    split
    · rfl
    · rw [List.cons_append]
end Go.Proofs.YtifmjomfoilnnaaGreatW.Md
