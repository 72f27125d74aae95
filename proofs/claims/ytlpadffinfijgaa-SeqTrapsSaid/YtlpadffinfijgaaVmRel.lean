/- How a plain value stands to the model's value in a world; what holds in one world holds in a later one. No conditions. -/
import Derived.Test.YtlpadffinfijgaaVmDef
import Derived.Below
import Derived.Laws.Rows
set_option linter.unusedVariables false
set_option linter.unusedSimpArgs false
namespace Go.Proofs.YtlpadffinfijgaaW.Vm
open Go Go.RowKit

/-- Where the machine's objects lie: blocks below N0 are not ours (those cells of them of which L0 tells are not looked at); μ: an object's block and first cell; hs: the objects. -/
structure Cx where
  N0 : Nat
  L0 : Nat → Nat → Prop
  μ : Nat → Option (Nat × Nat)
  hs : Nat → Option Ob
  w : World

def bsz (w : World) (b : Nat) : Nat := match w.heap[b]? with | some (.cells c _ _) => c.size | _ => 0
/-- may this cell be written? -/
def live (c : Cx) (b off : Nat) : Prop :=
  (b < c.N0 ∧ c.L0 b off) ∨ ∃ id base o, c.μ id = some (b, base) ∧ c.hs id = some o ∧ base + o.frz * o.esz ≤ off

mutual
inductive RC (w : World) (L : Nat → Nat → Prop) : D → Value → Prop
  | int (k : IntKind) (n : Int) : RC w L (.int k n) (.int k n)
  | bool (b : Bool) : RC w L (.bool b) (.bool b)
  | str (s : ByteArray) : RC w L (.str s) (.string s)
  | flt (k : FloatKind) (b : Nat) : RC w L (.flt k b) (.float k b)
  | cpx (k : FloatKind) (x y : Nat) : RC w L (.cpx k x y) (.complex k x y)
  | nil : RC w L .nil (.pointer none)
  | snil : RC w L .snil (.slice none 0 0)
  | nilf : RC w L .nilf .nilFunc
  | nili : RC w L .nili .nilIface
  | agg {cs : List D} {vs : Array Value} (h : RCs w L cs vs.toList) : RC w L (.agg cs) (.agg vs)
  | tup {cs : List D} {vs : Array Value} (h : RCs w L cs vs.toList) : RC w L (.tup cs) (.tuple vs)
  | fptr {z b off i j : Nat} {xs : List D} (h : RRow w L xs b off z) (hz : 0 < z) : RC w L (.fptr z xs i j) (.pointer (some ⟨b, off + i * z + j, none⟩))
  | sl {z b off cap : Nat} {t : Bool} {a : Addr} {xs : List D} (h : RRow w L xs b off z) (hz : 0 < z) (hc : xs.length ≤ cap) (ht : t = true → cap = xs.length)
      (ha : cap ≠ 0 → a = ⟨b, off, none⟩) : RC w L (.sl z xs t) (.slice (some a) xs.length cap)
  | clo {f : Fn} {a b : List D} {a' b' : Array Value} (h1 : RCs w L a a'.toList) (h2 : RCs w L b b'.toList) : RC w L (.clo f a b) (.func f a' b')
  | ifc {t : TypeId} {d : D} {v : Value} (h : RC w L d v) : RC w L (.ifc t d) (.iface t v)
inductive RCs (w : World) (L : Nat → Nat → Prop) : List D → List Value → Prop
  | nil : RCs w L [] []
  | cons {d : D} {v : Value} {ds : List D} {vs : List Value} (h : RC w L d v) (r : RCs w L ds vs) : RCs w L (d :: ds) (v :: vs)
inductive RCells (w : World) (L : Nat → Nat → Prop) : List D → Nat → Nat → Prop
  | nil (b off : Nat) : RCells w L [] b off
  | cons {d : D} {u : Value} {ds : List D} {b off : Nat} (h1 : d.one = true) (hc : w.cell? ⟨b, off, none⟩ = some u) (hl : ¬ L b off) (h : RC w L d u)
      (r : RCells w L ds b (off + 1)) : RCells w L (d :: ds) b off
inductive RRow (w : World) (L : Nat → Nat → Prop) : List D → Nat → Nat → Nat → Prop
  | nil (b off z : Nat) : RRow w L [] b off z
  | cons {d : D} {ds : List D} {b off z : Nat} (hl : d.cells.length = z) (ht : ∀ ds, d ≠ .tup ds) (h : RCells w L d.cells b off) (r : RRow w L ds b (off + z) z) :
      RRow w L (d :: ds) b off z
end

/-- What is not written stays, and is still not written. -/
def Keeps (w : World) (L : Nat → Nat → Prop) (w' : World) (L' : Nat → Nat → Prop) : Prop :=
  ∀ b off u, w.cell? ⟨b, off, none⟩ = some u → ¬ L b off → w'.cell? ⟨b, off, none⟩ = some u ∧ ¬ L' b off

section
variable {w w' : World} {L L' : Nat → Nat → Prop}
theorem RC.keep (hk : Keeps w L w' L') {d : D} {v : Value} (h : RC w L d v) : RC w' L' d v := by
  refine RC.rec (motive_1 := fun d v _ => RC w' L' d v) (motive_2 := fun ds vs _ => RCs w' L' ds vs) (motive_3 := fun ds b off _ => RCells w' L' ds b off)
    (motive_4 := fun ds b off z _ => RRow w' L' ds b off z) ?_ ?_ ?_ ?_ ?_ ?_ ?_ ?_ ?_ ?_ ?_ ?_ ?_ ?_ ?_ ?_ ?_ ?_ ?_ ?_ ?_ h
  · exact fun k n => .int k n
  · exact fun b => .bool b
  · exact fun s => .str s
  · exact fun k b => .flt k b
  · exact fun k x y => .cpx k x y
  · exact .nil
  · exact .snil
  · exact .nilf
  · exact .nili
  · exact fun _ h => .agg h
  · exact fun _ h => .tup h
  · exact fun _ hz h => .fptr h hz
  · exact fun _ hz hc ht ha h => .sl h hz hc ht ha
  · exact fun _ _ h1 h2 => .clo h1 h2
  · exact fun _ h => .ifc h
  · exact .nil
  · exact fun _ _ h r => .cons h r
  · exact fun b off => .nil b off
  · exact fun h1 hc hl _ _ h r => .cons h1 (hk _ _ _ hc hl).1 (hk _ _ _ hc hl).2 h r
  · exact fun b off z => .nil b off z
  · exact fun hl ht _ _ h r => .cons hl ht h r

theorem RCs.keep (hk : Keeps w L w' L') : ∀ {ds : List D} {vs : List Value}, RCs w L ds vs → RCs w' L' ds vs
  | _, _, .nil => .nil
  | _, _, .cons h r => .cons (h.keep hk) (RCs.keep hk r)
theorem RCells.keep (hk : Keeps w L w' L') : ∀ {ds : List D} {b off : Nat}, RCells w L ds b off → RCells w' L' ds b off
  | _, _, _, .nil _ _ => .nil _ _
  | _, _, _, .cons h1 hc hl h r => .cons h1 (hk _ _ _ hc hl).1 (hk _ _ _ hc hl).2 (h.keep hk) (RCells.keep hk r)
theorem RRow.keep (hk : Keeps w L w' L') : ∀ {ds : List D} {b off z : Nat}, RRow w L ds b off z → RRow w' L' ds b off z
  | _, _, _, _, .nil _ _ _ => .nil _ _ _
  | _, _, _, _, .cons hl ht h r => .cons hl ht (h.keep hk) (RRow.keep hk r)

theorem RCells.get {b : Nat} : ∀ {ds : List D} {off : Nat}, RCells w L ds b off → ∀ {j : Nat} {x : D}, ds[j]? = some x →
    x.one = true ∧ ∃ u, w.cell? ⟨b, off + j, none⟩ = some u ∧ ¬ L b (off + j) ∧ RC w L x u
  | _, _, .nil _ _, _, _, h => by simp at h
  | _, off, .cons h1 hc hl h r, 0, x, e => by
    simp only [List.getElem?_cons_zero, Option.some.injEq] at e; subst e
    exact ⟨h1, _, hc, hl, h⟩
  | _, off, .cons h1 hc hl h r, j + 1, x, e => by
    simp only [List.getElem?_cons_succ] at e
    have := RCells.get r e
    rw [show off + 1 + j = off + (j + 1) by omega] at this
    exact this
theorem RRow.get {b z : Nat} : ∀ {ds : List D} {off : Nat}, RRow w L ds b off z → ∀ {i : Nat} {x : D}, ds[i]? = some x →
    x.cells.length = z ∧ (∀ ds, x ≠ .tup ds) ∧ RCells w L x.cells b (off + i * z)
  | _, _, .nil _ _ _, _, _, h => by simp at h
  | _, off, .cons hl ht h r, 0, x, e => by
    simp only [List.getElem?_cons_zero, Option.some.injEq] at e; subst e
    exact ⟨hl, ht, by simpa using h⟩
  | _, off, .cons hl ht h r, i + 1, x, e => by
    simp only [List.getElem?_cons_succ] at e
    have := RRow.get r e
    rw [show off + z + i * z = off + (i + 1) * z by rw [Nat.add_mul]; omega] at this
    exact this
theorem RRow.drop {b z : Nat} : ∀ (n : Nat) {ds : List D} {off : Nat}, RRow w L ds b off z → RRow w L (ds.drop n) b (off + n * z) z
  | 0, _, _, h => by simpa using h
  | n + 1, _, _, .nil _ _ _ => by simpa using RRow.nil _ _ _
  | n + 1, _, off, .cons hl ht h r => by
    have := RRow.drop n r
    rw [show off + z + n * z = off + (n + 1) * z by rw [Nat.add_mul]; omega] at this
    simpa using this
theorem RRow.take {b z : Nat} : ∀ (n : Nat) {ds : List D} {off : Nat}, RRow w L ds b off z → RRow w L (ds.take n) b off z
  | 0, _, _, h => by simpa using RRow.nil _ _ _
  | n + 1, _, _, .nil _ _ _ => by simpa using RRow.nil _ _ _
  | n + 1, _, off, .cons hl ht h r => by simpa using RRow.cons hl ht h (RRow.take n r)
theorem RCells.of {b : Nat} : ∀ {ds : List D} {off : Nat}, (∀ (j : Nat) x, ds[j]? = some x → x.one = true ∧ ∃ u, w.cell? ⟨b, off + j, none⟩ = some u ∧ ¬ L b (off + j) ∧ RC w L x u) → RCells w L ds b off
  | [], _, _ => .nil _ _
  | d :: ds, off, h => by
    obtain ⟨h1, u, hc, hl, hr⟩ := h 0 d (by simp)
    refine .cons h1 (by simpa using hc) (by simpa using hl) hr (RCells.of fun j x hx => ?_)
    have := h (j + 1) x (by simpa using hx)
    rw [show off + (j + 1) = off + 1 + j by omega] at this
    exact this
theorem RRow.of {b z : Nat} : ∀ {ds : List D} {off : Nat}, (∀ (i : Nat) x, ds[i]? = some x → x.cells.length = z ∧ (∀ ds, x ≠ .tup ds) ∧ RCells w L x.cells b (off + i * z)) → RRow w L ds b off z
  | [], _, _ => .nil _ _ _
  | d :: ds, off, h => by
    obtain ⟨h1, h2, h3⟩ := h 0 d (by simp)
    refine .cons h1 h2 (by simpa using h3) (RRow.of fun i x hx => ?_)
    have := h (i + 1) x (by simpa using hx)
    rw [show off + (i + 1) * z = off + z + i * z by rw [Nat.add_mul]; omega] at this
    exact this
theorem RCs.length : ∀ {ds : List D} {vs : List Value}, RCs w L ds vs → ds.length = vs.length
  | _, _, .nil => rfl
  | _, _, .cons _ r => by simp [RCs.length r]
theorem RCs.get : ∀ {ds : List D} {vs : List Value}, RCs w L ds vs → ∀ {j : Nat} {x : D}, ds[j]? = some x → ∃ u, vs[j]? = some u ∧ RC w L x u
  | _, _, .nil, _, _, h => by simp at h
  | _, _, .cons h r, 0, x, e => by
    simp only [List.getElem?_cons_zero, Option.some.injEq] at e; subst e
    exact ⟨_, by simp, h⟩
  | _, _, .cons h r, j + 1, x, e => by
    simp only [List.getElem?_cons_succ] at e
    simpa using RCs.get r e
theorem RCs.of : ∀ {ds : List D} {vs : List Value}, ds.length = vs.length → (∀ (j : Nat) x u, ds[j]? = some x → vs[j]? = some u → RC w L x u) → RCs w L ds vs
  | [], [], _, _ => .nil
  | d :: ds, v :: vs, hl, h => .cons (h 0 d v (by simp) (by simp)) (RCs.of (by simpa using hl) fun j x u hx hu => h (j + 1) x u (by simpa using hx) (by simpa using hu))
  | [], _ :: _, hl, _ => by simp at hl
  | _ :: _, [], hl, _ => by simp at hl
theorem RCs.append : ∀ {ds ds' : List D} {vs vs' : List Value}, RCs w L ds vs → RCs w L ds' vs' → RCs w L (ds ++ ds') (vs ++ vs')
  | _, _, _, _, .nil, h => h
  | _, _, _, _, .cons h r, h' => .cons h (RCs.append r h')
end

mutual
inductive RV (c : Cx) : D → Value → Prop
  | und (v : Value) : RV c .und v
  | cl {d : D} {v : Value} (h : RC c.w (live c) d v) : RV c d v
  | ptrs {id ver i j : Nat} {a : Addr} {o : Ob} (h : c.hs id = some o) (hv : ver < o.ver) : RV c (.ptr id ver i j) (.pointer (some a))
  | ptr {id ver i j b base : Nat} {a : Addr} {o : Ob} (h : c.hs id = some o) (hv : ver = o.ver) (hm : c.μ id = some (b, base)) (ha : a = ⟨b, base + i * o.esz + j, none⟩) :
      RV c (.ptr id ver i j) (.pointer (some a))
  | owns {z id ver off len cap : Nat} {a : Addr} {o : Ob} (h : c.hs id = some o) (hv : ver < o.ver) (hc : len ≤ cap) : RV c (.own z id ver off len) (.slice (some a) len cap)
  | own {z id ver off len cap b base : Nat} {a : Addr} {o : Ob} (h : c.hs id = some o) (hv : ver = o.ver) (hz : z = o.esz) (hm : c.μ id = some (b, base)) (hl : off + len ≤ o.els.length)
      (hc : len ≤ cap) (hb : base + (off + cap) * o.esz ≤ bsz c.w b) (ha : cap ≠ 0 → a = ⟨b, base + off * o.esz, none⟩) : RV c (.own z id ver off len) (.slice (some a) len cap)
  | agg {cs : List D} {vs : Array Value} (h : RVs c cs vs.toList) : RV c (.agg cs) (.agg vs)
  | tup {cs : List D} {vs : Array Value} (h : RVs c cs vs.toList) : RV c (.tup cs) (.tuple vs)
  | clo {f : Fn} {a b : List D} {a' b' : Array Value} (h1 : RVs c a a'.toList) (h2 : RVs c b b'.toList) : RV c (.clo f a b) (.func f a' b')
  | ifc {t : TypeId} {d : D} {v : Value} (h : RV c d v) : RV c (.ifc t d) (.iface t v)
inductive RVs (c : Cx) : List D → List Value → Prop
  | nil : RVs c [] []
  | cons {d : D} {v : Value} {ds : List D} {vs : List Value} (h : RV c d v) (r : RVs c ds vs) : RVs c (d :: ds) (v :: vs)
end

structure Ext (c c' : Cx) : Prop where
  N0 : c'.N0 = c.N0
  L0 : c'.L0 = c.L0
  size : c.w.heap.size ≤ c'.w.heap.size
  bs : ∀ b, b < c.w.heap.size → bsz c'.w b = bsz c.w b
  kp : Keeps c.w (live c) c'.w (live c')
  ob : ∀ id o, c.hs id = some o → ∃ o', c'.hs id = some o' ∧ (o.ver < o'.ver ∨ (o'.ver = o.ver ∧ o'.esz = o.esz ∧ o'.els.length = o.els.length ∧ ∀ m, c.μ id = some m → c'.μ id = some m))

theorem Ext.refl (c : Cx) : Ext c c := ⟨rfl, rfl, Nat.le_refl _, fun _ _ => rfl, fun _ _ _ h1 h2 => ⟨h1, h2⟩, fun _ o h => ⟨o, h, .inr ⟨rfl, rfl, rfl, fun _ h => h⟩⟩⟩
theorem Ext.trans {a b c : Cx} (h : Ext a b) (k : Ext b c) : Ext a c := by
  refine ⟨k.N0.trans h.N0, k.L0.trans h.L0, Nat.le_trans h.size k.size, fun i hi => (k.bs i (Nat.lt_of_lt_of_le hi h.size)).trans (h.bs i hi), fun i off u h1 h2 => ?_, fun id o ho => ?_⟩
  · obtain ⟨h3, h4⟩ := h.kp i off u h1 h2
    exact k.kp i off u h3 h4
  · obtain ⟨o1, h1, h2⟩ := h.ob id o ho
    obtain ⟨o2, h3, h4⟩ := k.ob id o1 h1
    refine ⟨o2, h3, ?_⟩
    rcases h2 with h2 | ⟨e1, e2, e3, e4⟩
    · rcases h4 with h4 | ⟨f1, _⟩
      · exact .inl (by omega)
      · exact .inl (by omega)
    · rcases h4 with h4 | ⟨f1, f2, f3, f4⟩
      · exact .inl (by omega)
      · exact .inr ⟨by omega, by omega, by omega, fun m hm => f4 m (e4 m hm)⟩

section
variable {c c' : Cx}
theorem block_lt {w : World} {b off : Nat} {u : Value} (h : w.cell? ⟨b, off, none⟩ = some u) : b < w.heap.size := block_lt_of_cell h
theorem bsz_lt {w : World} {b : Nat} (h : bsz w b ≠ 0) : b < w.heap.size := by
  unfold bsz at h
  rcases Nat.lt_or_ge b w.heap.size with hb | hb
  · exact hb
  · rw [Array.getElem?_eq_none hb] at h; simp at h
theorem RV.ext (he : Ext c c') {d : D} {v : Value} (h : RV c d v) (hsz : ∀ id b base, c.μ id = some (b, base) → b < c.w.heap.size) : RV c' d v := by
  refine RV.rec (motive_1 := fun d v _ => RV c' d v) (motive_2 := fun ds vs _ => RVs c' ds vs) ?_ ?_ ?_ ?_ ?_ ?_ ?_ ?_ ?_ ?_ ?_ ?_ h
  · exact fun v => .und v
  · exact fun h => .cl (h.keep he.kp)
  · intro id ver i j a o h hv
    obtain ⟨o', h', hh⟩ := he.ob id o h
    exact .ptrs h' (by omega)
  · intro id ver i j b base a o h hv hm ha
    obtain ⟨o', h', hh⟩ := he.ob id o h
    rcases hh with hh | ⟨e1, e2, e3, e4⟩
    · exact .ptrs h' (by omega)
    · exact .ptr h' (by omega) (e4 _ hm) (by rw [ha, e2])
  · intro z id ver off len cap a o h hv hc
    obtain ⟨o', h', hh⟩ := he.ob id o h
    exact .owns h' (by omega) hc
  · intro z id ver off len cap b base a o h hv hz hm hl hc hb ha
    obtain ⟨o', h', hh⟩ := he.ob id o h
    rcases hh with hh | ⟨e1, e2, e3, e4⟩
    · exact .owns h' (by omega) hc
    · exact .own h' (by omega) (by omega) (e4 _ hm) (by omega) hc (by rw [he.bs b (hsz _ _ _ hm), e2]; exact hb) (by rw [e2]; exact ha)
  · exact fun _ h => .agg h
  · exact fun _ h => .tup h
  · exact fun _ _ h1 h2 => .clo h1 h2
  · exact fun _ h => .ifc h
  · exact .nil
  · exact fun _ _ h r => .cons h r
theorem RVs.ext (he : Ext c c') (hsz : ∀ id b base, c.μ id = some (b, base) → b < c.w.heap.size) : ∀ {ds : List D} {vs : List Value}, RVs c ds vs → RVs c' ds vs
  | _, _, .nil => .nil
  | _, _, .cons h r => .cons (h.ext he hsz) (RVs.ext he hsz r)
theorem RCs.rv {c : Cx} : ∀ {ds : List D} {vs : List Value}, RCs c.w (live c) ds vs → RVs c ds vs
  | _, _, .nil => .nil
  | _, _, .cons h r => .cons (.cl h) (RCs.rv r)
theorem RVs.length : ∀ {ds : List D} {vs : List Value}, RVs c ds vs → ds.length = vs.length
  | _, _, .nil => rfl
  | _, _, .cons _ r => by simp [RVs.length r]
theorem RVs.get : ∀ {ds : List D} {vs : List Value}, RVs c ds vs → ∀ {j : Nat} {x : D}, ds[j]? = some x → ∃ u, vs[j]? = some u ∧ RV c x u
  | _, _, .nil, _, _, h => by simp at h
  | _, _, .cons h r, 0, x, e => by
    simp only [List.getElem?_cons_zero, Option.some.injEq] at e; subst e
    exact ⟨_, by simp, h⟩
  | _, _, .cons h r, j + 1, x, e => by
    simp only [List.getElem?_cons_succ] at e
    simpa using RVs.get r e
theorem RVs.of : ∀ {ds : List D} {vs : List Value}, ds.length = vs.length → (∀ (j : Nat) x u, ds[j]? = some x → vs[j]? = some u → RV c x u) → RVs c ds vs
  | [], [], _, _ => .nil
  | d :: ds, v :: vs, hl, h => .cons (h 0 d v (by simp) (by simp)) (RVs.of (by simpa using hl) fun j x u hx hu => h (j + 1) x u (by simpa using hx) (by simpa using hu))
  | [], _ :: _, hl, _ => by simp at hl
  | _ :: _, [], hl, _ => by simp at hl
theorem RVs.append : ∀ {ds ds' : List D} {vs vs' : List Value}, RVs c ds vs → RVs c ds' vs' → RVs c (ds ++ ds') (vs ++ vs')
  | _, _, _, _, .nil, h => h
  | _, _, _, _, .cons h r, h' => .cons h (RVs.append r h')

/-! what a value of a form is -/
theorem RV.int {k : IntKind} {n : Int} {v : Value} (h : RV c (.int k n) v) : v = .int k n := by cases h with | cl h => cases h; rfl
theorem RV.bool {b : Bool} {v : Value} (h : RV c (.bool b) v) : v = .bool b := by cases h with | cl h => cases h; rfl
theorem RV.str {s : ByteArray} {v : Value} (h : RV c (.str s) v) : v = .string s := by cases h with | cl h => cases h; rfl
theorem RV.snil {v : Value} (h : RV c .snil v) : v = .slice none 0 0 := by cases h with | cl h => cases h; rfl
theorem RV.agg' {cs : List D} {v : Value} (h : RV c (.agg cs) v) : ∃ vs : Array Value, v = .agg vs ∧ RVs c cs vs.toList := by
  cases h with
  | cl h => cases h with | agg h => exact ⟨_, rfl, h.rv⟩
  | agg h => exact ⟨_, rfl, h⟩
theorem RV.tup' {cs : List D} {v : Value} (h : RV c (.tup cs) v) : ∃ vs : Array Value, v = .tuple vs ∧ RVs c cs vs.toList := by
  cases h with
  | cl h => cases h with | tup h => exact ⟨_, rfl, h.rv⟩
  | tup h => exact ⟨_, rfl, h⟩
theorem RV.clo' {f : Fn} {a b : List D} {v : Value} (h : RV c (.clo f a b) v) : ∃ a' b' : Array Value, v = .func f a' b' ∧ RVs c a a'.toList ∧ RVs c b b'.toList := by
  cases h with
  | cl h => cases h with | clo h1 h2 => exact ⟨_, _, rfl, h1.rv, h2.rv⟩
  | clo h1 h2 => exact ⟨_, _, rfl, h1, h2⟩
theorem RV.ptr' {id ver i j : Nat} {v : Value} (h : RV c (.ptr id ver i j) v) {o : Ob} (ho : c.hs id = some o) (hv : o.ver = ver) :
    ∃ b base, c.μ id = some (b, base) ∧ v = .pointer (some ⟨b, base + i * o.esz + j, none⟩) := by
  cases h with
  | cl h => cases h
  | ptrs h hv' => rw [ho] at h; cases h; omega
  | ptr h hv' hm ha => rw [ho] at h; cases h; exact ⟨_, _, hm, by rw [ha]⟩
theorem RV.own' {z id ver off len : Nat} {v : Value} (h : RV c (.own z id ver off len) v) {o : Ob} (ho : c.hs id = some o) (hv : o.ver = ver) :
    z = o.esz ∧ off + len ≤ o.els.length ∧ ∃ b base cap a, c.μ id = some (b, base) ∧ v = .slice (some a) len cap ∧ len ≤ cap ∧ base + (off + cap) * o.esz ≤ bsz c.w b ∧
      (cap ≠ 0 → a = ⟨b, base + off * o.esz, none⟩) := by
  cases h with
  | cl h => cases h
  | owns h hv' _ => rw [ho] at h; cases h; omega
  | own h hv' hz hm hl hc hb ha => rw [ho] at h; cases h; exact ⟨hz, hl, _, _, _, _, hm, rfl, hc, hb, ha⟩
theorem RV.sl' {z : Nat} {xs : List D} {t : Bool} {v : Value} (h : RV c (.sl z xs t) v) :
    0 < z ∧ ∃ b off cap a, v = .slice (some a) xs.length cap ∧ RRow c.w (live c) xs b off z ∧ xs.length ≤ cap ∧ (t = true → cap = xs.length) ∧ (cap ≠ 0 → a = ⟨b, off, none⟩) := by
  cases h with | cl h => cases h with | sl h hz hc ht ha => exact ⟨hz, _, _, _, _, rfl, h, hc, ht, ha⟩
theorem RV.fptr' {z i j : Nat} {xs : List D} {v : Value} (h : RV c (.fptr z xs i j) v) :
    0 < z ∧ ∃ b off, v = .pointer (some ⟨b, off + i * z + j, none⟩) ∧ RRow c.w (live c) xs b off z := by
  cases h with | cl h => cases h with | fptr h hz => exact ⟨hz, _, _, rfl, h⟩
theorem RV.scal {d : D} {u v : Value} (h : RV c d v) (hs : scal d = some u) : v = u := by
  cases h with
  | cl h => cases h <;> simp [Vm.scal] at hs <;> exact hs
  | _ => simp [Vm.scal] at hs

theorem RC.one' {w : World} {L : Nat → Nat → Prop} {d : D} {v : Value} (h : RC w L d v) (h1 : d.one = true) : v.oneCell' = true := by
  cases h <;> first | rfl | (simp [D.one] at h1)
theorem RV.one' {d : D} {v : Value} (h : RV c d v) (h1 : d.one = true) : v.oneCell' = true := by
  cases h with
  | und => simp [D.one] at h1
  | cl h => exact h.one' h1
  | ptrs => rfl
  | owns => rfl
  | ptr => rfl
  | own => rfl
  | agg => simp [D.one] at h1
  | tup => simp [D.one] at h1
  | clo => rfl
  | ifc => rfl
theorem ofVal1_rc {w : World} {L : Nat → Nat → Prop} {v : Value} {d : D} (h : ofVal1 v = some d) : RC w L d v := by
  unfold ofVal1 at h
  split at h <;> first | cases h | skip
  · exact .bool _
  · exact .int _ _
  · exact .str _
  · exact .flt _ _
  · exact .cpx _ _ _
  · exact .nil
  · exact .snil
  · exact .nilf
  · exact .nili
theorem ofVals_rc {w : World} {L : Nat → Nat → Prop} : ∀ {vs : List Value} {ds : List D}, ofVals vs = some ds → RCs w L ds vs
  | [], _, h => by simp [ofVals] at h; subst h; exact .nil
  | v :: vs, ds, h => by
    simp only [ofVals] at h
    split at h
    · rename_i d ds' h1 h2
      cases h
      exact .cons (ofVal1_rc h1) (ofVals_rc h2)
    · cases h
theorem ofVal_rc {w : World} {L : Nat → Nat → Prop} {v : Value} {d : D} (h : ofVal v = some d) : RC w L d v := by
  unfold ofVal at h
  split at h
  · simp only [Option.map_eq_some_iff] at h
    obtain ⟨ds, h1, rfl⟩ := h
    exact .agg (ofVals_rc h1)
  · exact ofVal1_rc h
end

/-! objects in memory -/
def VEl (c : Cx) (d : D) (b off z : Nat) : Prop :=
  d.cells.length = z ∧ (∀ ds, d ≠ .tup ds) ∧ ∀ j x, d.cells[j]? = some x → x.one = true ∧ ∃ u, c.w.cell? ⟨b, off + j, none⟩ = some u ∧ RV c x u
structure HR (c : Cx) : Prop where
  n0 : c.N0 ≤ c.w.heap.size
  ge : ∀ id b base, c.μ id = some (b, base) → c.N0 ≤ b
  inj : ∀ id id' b x y, c.μ id = some (b, x) → c.μ id' = some (b, y) → id = id'
  ob : ∀ id b base, c.μ id = some (b, base) → ∃ o cells elem, c.hs id = some o ∧ c.w.heap[b]? = some (.cells cells elem (0, 0)) ∧ 0 < o.esz ∧ base + o.els.length * o.esz ≤ cells.size ∧
    ∀ i d, o.els[i]? = some d → VEl c d b (base + i * o.esz) o.esz
theorem HR.lt {c : Cx} (h : HR c) {id b base : Nat} (hm : c.μ id = some (b, base)) : b < c.w.heap.size := by
  obtain ⟨o, cells, elem, _, hh, _⟩ := h.ob id b base hm
  exact (Array.getElem?_eq_some_iff.1 hh).1
theorem HR.live {c : Cx} (h : HR c) {b : Nat} (hb : b < c.w.heap.size) (hl : ∃ off, Vm.live c b off) : b < c.N0 ∨ ∃ id base, c.μ id = some (b, base) := by
  obtain ⟨off, hl | ⟨id, base, o, hm, _⟩⟩ := hl
  · exact .inl hl.1
  · exact .inr ⟨id, base, hm⟩
theorem VEl.ext {c c' : Cx} (he : Ext c c') (hsz : ∀ id b base, c.μ id = some (b, base) → b < c.w.heap.size) {d : D} {b off z : Nat} (h : VEl c d b off z)
    (hc : ∀ j u, j < z → c.w.cell? ⟨b, off + j, none⟩ = some u → c'.w.cell? ⟨b, off + j, none⟩ = some u) : VEl c' d b off z := by
  refine ⟨h.1, h.2.1, fun j x hx => ?_⟩
  obtain ⟨h1, u, h2, h3⟩ := h.2.2 j x hx
  have hj : j < z := by
    have := (List.getElem?_eq_some_iff.1 hx).1
    rw [h.1] at this; exact this
  exact ⟨h1, u, hc j u hj h2, h3.ext he hsz⟩
end Go.Proofs.YtlpadffinfijgaaW.Vm
