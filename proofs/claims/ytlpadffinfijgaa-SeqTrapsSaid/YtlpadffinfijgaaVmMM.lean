/- Programs and their check, as plain functions over lists and numbers, and what follows. No conditions. -/
import Derived.IntWalk
import Derived.Laws.BitsLemmas
import Derived.RowKit
set_option linter.unusedVariables false
set_option linter.unusedSimpArgs false
namespace Go.Proofs.YtlpadffinfijgaaW.Md
structure Instr where
  op : Int
  a : Int
  b : Int
  deriving DecidableEq
structure Fu where
  arity : Int
  locals : Int
  slots : Int
  code : Option (List Instr)
def Fu.c (f : Fu) : List Instr := f.code.getD []
def fields (n : Int) : Int := if n = 0 ∨ n = 13 then 2 else if n = 1 ∨ n = 2 ∨ n = 10 ∨ n = 11 ∨ n = 14 ∨ n = 16 then 1 else 0
def off6 (n : Int) : Int := if n = 3 ∨ n = 4 ∨ n = 5 ∨ n = 6 then 2 else if n = 2 ∨ n = 7 ∨ n = 8 ∨ n = 9 ∨ n = 11 ∨ n = 15 then 1 else 0
def on6 (n : Int) : Int := if n = 8 then 2 else if n = 0 ∨ n = 1 ∨ n = 3 ∨ n = 4 ∨ n = 5 ∨ n = 6 ∨ n = 7 ∨ n = 12 ∨ n = 14 then 1 else 0
def leastA (n : Int) : Int := if n = 16 then 16 else 0
def mostA (n : Int) : Int := if n = 0 then 250 else if n = 1 ∨ n = 2 then 15 else if n = 10 ∨ n = 11 then 199 else if n = 13 then 15 else if n = 14 then 7 else if n = 16 then 255 else 0
def mostB (n : Int) : Int := if n = 0 then 250 else if n = 13 then 7 else 0
def imay (x : Instr) : Bool := decide (0 ≤ x.op) && decide (x.op < 17) && decide (leastA x.op ≤ x.a) && decide (x.a ≤ mostA x.op) && decide (0 ≤ x.b) && decide (x.b ≤ mostB x.op)
def headOk (f : Fu) : Bool := decide (0 ≤ f.arity) && decide (f.arity ≤ 16) && decide (0 ≤ f.locals) && decide (f.locals ≤ 16) && decide (0 ≤ f.slots) && decide (f.slots ≤ 8)
def fmay (f : Fu) : Bool := headOk f && decide (1 ≤ f.c.length) && decide (f.c.length ≤ 200) && f.c.all imay
def mayP (p : List Fu) : Bool := p.all fmay && decide (1 ≤ p.length) && decide (p.length ≤ 16)
theorem off6_le (n : Int) : 0 ≤ off6 n ∧ off6 n ≤ 2 := by unfold off6; split <;> (try split) <;> omega
theorem on6_le (n : Int) : 0 ≤ on6 n ∧ on6 n ≤ 2 := by unfold on6; split <;> (try split) <;> omega
/-- what is wrong with an instruction's fields, in a program of np functions -/
def fieldE (np : Nat) (f : Fu) (x : Instr) : Int :=
  if x.op = 1 ∨ x.op = 2 then (if f.locals ≤ x.a then 82 else 0)
  else if x.op = 14 then (if f.slots ≤ x.a then 82 else 0)
  else if x.op = 13 then (if f.slots ≤ x.b then 82 else if (np : Int) ≤ x.a then 82 else 0)
  else if x.op = 10 ∨ x.op = 11 then (if (f.c.length : Int) ≤ x.a then 83 else 0)
  else 0
def firstE (np : Nat) (f : Fu) : Nat → List Instr → Option (Nat × Int)
  | _, [] => none
  | i, x :: xs => if fieldE np f x = 0 then firstE np f (i + 1) xs else some (i, fieldE np f x)
def offP (p : List Fu) (x : Instr) : Int := if x.op = 13 then ((p[x.a.toNat]?).map (·.arity)).getD 0 else off6 x.op
def nextP (x : Instr) (at_ : Nat) : List Nat := if x.op = 10 then [x.a.toNat] else if x.op = 15 ∨ x.op = 16 then [] else if x.op = 11 then [at_ + 1, x.a.toNat] else [at_ + 1]
/-- what an instruction takes off, lays on, and what follows it -/
structure Sh where
  off : Int
  on : Int
  nx : List Nat
def shapes (p : List Fu) (c : List Instr) : List Sh := c.mapIdx fun i x => ⟨offP p x, on6 x.op, nextP x i⟩
def leastF (ds : List Int) (dn : List Bool) : Nat → Nat → Option Nat
  | 0, _ => none
  | k + 1, i => if ds.getD i (-1) ≠ -1 ∧ dn.getD i true = false then some i else leastF ds dn k (i + 1)
def least (ds : List Int) (dn : List Bool) : Option Nat := leastF ds dn ds.length 0
def lay (n : Nat) (b : Int) : List Nat → List Int → Int ⊕ List Int
  | [], ds => .inr ds
  | t :: ts, ds => if n ≤ t then .inl 81 else if ds.getD t (-1) = -1 then lay n b ts (ds.set t b) else if ds.getD t (-1) ≠ b then .inl 84 else lay n b ts ds
def reachN (sh : List Sh) : Nat → List Int → List Bool → (Int × Int) ⊕ List Int
  | 0, _, _ => .inl (0, 99)
  | k + 1, ds, dn => match least ds dn with
    | none => .inr ds
    | some at_ => match sh[at_]? with
      | none => .inl (0, 99)
      | some s =>
        if ds.getD at_ (-1) < s.off ∨ 16 < ds.getD at_ (-1) - s.off + s.on then .inl (at_, 84)
        else match lay sh.length (ds.getD at_ (-1) - s.off + s.on) s.nx ds with
          | .inl e => .inl (at_, e)
          | .inr ds' => reachN sh k ds' (dn.set at_ true)
def reach (sh : List Sh) : (Int × Int) ⊕ List Int := reachN sh (sh.length + 1) ((List.replicate sh.length (-1 : Int)).set 0 0) (List.replicate sh.length false)
/-- what is wrong with a function, and where -/
def funcE (p : List Fu) (f : Fu) : Int × Int :=
  if f.locals < f.arity then (0, 80) else
  match firstE p.length f 0 f.c with
  | some (i, e) => (i, e)
  | none => match reach (shapes p f.c) with
    | .inl r => r
    | .inr _ => (0, 0)
def goE (p : List Fu) : Nat → List Fu → Int × Int × Int
  | _, [] => (0, 0, 0)
  | i, f :: fs => if (funcE p f).2 = 0 then goE p (i + 1) fs else (i, (funcE p f).1, (funcE p f).2)
def check (p : List Fu) : Int × Int × Int := if mayP p then goE p 0 p else (0, 0, 1)
def good (p : List Fu) : Bool := (check p).2.2 == 0
def depthsOf (p : List Fu) (f : Fu) : List Int := match reach (shapes p f.c) with | .inr d => d | .inl _ => []
def depths (p : List Fu) (fn : Int) : List Int :=
  if good p = true ∧ 0 ≤ fn then match p[fn.toNat]? with | some f => depthsOf p f | none => [] else []

/-! the walk through places -/
theorem leastF_some {ds : List Int} {dn : List Bool} : ∀ {k i j : Nat}, leastF ds dn k i = some j → i ≤ j ∧ j < i + k ∧ ds.getD j (-1) ≠ -1 ∧ dn.getD j true = false
  | 0, i, j, h => by simp [leastF] at h
  | k + 1, i, j, h => by
    unfold leastF at h
    split at h
    · rename_i hc; cases h; exact ⟨Nat.le_refl _, by omega, hc⟩
    · obtain ⟨a, b, c⟩ := leastF_some h; exact ⟨by omega, by omega, c⟩
theorem leastF_none {ds : List Int} {dn : List Bool} : ∀ {k i : Nat}, leastF ds dn k i = none → ∀ j, i ≤ j → j < i + k → ds.getD j (-1) = -1 ∨ dn.getD j true = true
  | 0, i, h, j, h1, h2 => by omega
  | k + 1, i, h, j, h1, h2 => by
    unfold leastF at h
    split at h
    · cases h
    · rename_i hc
      by_cases hj : j = i
      · subst hj
        by_cases hd : ds.getD j (-1) = -1
        · exact .inl hd
        · right
          cases hb : dn.getD j true with
          | true => rfl
          | false => exact absurd ⟨hd, hb⟩ hc
      · exact leastF_none h j (by omega) (by omega)
theorem lay_len {n : Nat} {b : Int} : ∀ {ts : List Nat} {ds r : List Int}, lay n b ts ds = .inr r → r.length = ds.length
  | [], ds, r, h => by simp only [lay, Sum.inr.injEq] at h; rw [h]
  | t :: ts, ds, r, h => by
    unfold lay at h
    split at h
    · cases h
    · split at h
      · have := lay_len h; simpa using this
      · split at h
        · cases h
        · exact lay_len h
theorem getD_set {α : Type} (l : List α) (i j : Nat) (x d : α) : (l.set i x).getD j d = if j = i ∧ i < l.length then x else l.getD j d := by
  simp only [List.getD_eq_getElem?_getD, List.getElem?_set]
  split
  · rename_i h; subst h
    by_cases hl : i < l.length
    · simp [hl]
    · simp [hl]
  · rename_i h
    rw [if_neg (fun hh => h hh.1.symm)]
/-- what lay does: it changes no place that is reached, and reaches those that follow -/
theorem lay_ok {n : Nat} {b : Int} (hb : b ≠ -1) : ∀ {ts : List Nat} {ds r : List Int}, ds.length = n → lay n b ts ds = .inr r →
    (∀ t ∈ ts, t < n ∧ r.getD t (-1) = b) ∧ (∀ j, ds.getD j (-1) ≠ -1 → r.getD j (-1) = ds.getD j (-1)) ∧ (∀ j, r.getD j (-1) ≠ -1 → ds.getD j (-1) ≠ -1 ∨ (j ∈ ts ∧ r.getD j (-1) = b))
  | [], ds, r, hl, h => by
    simp only [lay, Sum.inr.injEq] at h; subst h
    exact ⟨by simp, fun _ _ => rfl, fun j h => .inl h⟩
  | t :: ts, ds, r, hl, h => by
    unfold lay at h
    split at h
    · cases h
    · rename_i ht
      split at h
      · rename_i hd
        obtain ⟨h1, h2, h3⟩ := lay_ok hb (by simpa using hl) h
        have ht' : (ds.set t b).getD t (-1) = b := by rw [getD_set, if_pos ⟨rfl, by omega⟩]
        refine ⟨fun s hs => ?_, fun j hj => ?_, fun j hj => ?_⟩
        · rcases List.mem_cons.1 hs with rfl | hs
          · exact ⟨by omega, by rw [h2 _ (by rw [ht']; exact hb), ht']⟩
          · exact h1 s hs
        · have hjt : j ≠ t := by rintro rfl; exact hj hd
          have e : (ds.set t b).getD j (-1) = ds.getD j (-1) := by rw [getD_set, if_neg (fun hh => hjt hh.1)]
          rw [h2 j (by rw [e]; exact hj), e]
        · rcases h3 j hj with h | ⟨h, h'⟩
          · by_cases hjt : j = t
            · subst hjt; right; exact ⟨by simp, by rw [h2 _ h, ht']⟩
            · left; rw [getD_set, if_neg (fun hh => hjt hh.1)] at h; exact h
          · exact .inr ⟨by simp [h], h'⟩
      · rename_i hd
        split at h
        · cases h
        · rename_i hb'
          have hb' : ds.getD t (-1) = b := by simpa using hb'
          obtain ⟨h1, h2, h3⟩ := lay_ok hb hl h
          refine ⟨fun s hs => ?_, h2, fun j hj => ?_⟩
          · rcases List.mem_cons.1 hs with rfl | hs
            · exact ⟨by omega, by rw [h2 _ hd, hb']⟩
            · exact h1 s hs
          · rcases h3 j hj with h | ⟨h, h'⟩
            · exact .inl h
            · exact .inr ⟨by simp [h], h'⟩
/-- what the depths of a function are -/
structure Fin (sh : List Sh) (d : List Int) : Prop where
  len : d.length = sh.length
  d0 : d.getD 0 (-1) = 0
  rng : ∀ i, d.getD i (-1) = -1 ∨ (0 ≤ d.getD i (-1) ∧ d.getD i (-1) ≤ 16)
  safe : ∀ i s, sh[i]? = some s → d.getD i (-1) ≠ -1 → s.off ≤ d.getD i (-1) ∧ d.getD i (-1) - s.off + s.on ≤ 16 ∧ ∀ t ∈ s.nx, t < sh.length ∧ d.getD t (-1) = d.getD i (-1) - s.off + s.on
  back : ∀ t, t ≠ 0 → d.getD t (-1) ≠ -1 → ∃ i s, sh[i]? = some s ∧ d.getD i (-1) ≠ -1 ∧ t ∈ s.nx
structure Inv (sh : List Sh) (d : List Int) (dn : List Bool) : Prop where
  len : d.length = sh.length
  dlen : dn.length = sh.length
  d0 : d.getD 0 (-1) = 0
  rng : ∀ i, d.getD i (-1) = -1 ∨ (0 ≤ d.getD i (-1) ∧ d.getD i (-1) ≤ 16)
  safe : ∀ i s, sh[i]? = some s → dn.getD i true = true → d.getD i (-1) ≠ -1 ∧ s.off ≤ d.getD i (-1) ∧ d.getD i (-1) - s.off + s.on ≤ 16 ∧ ∀ t ∈ s.nx, t < sh.length ∧ d.getD t (-1) = d.getD i (-1) - s.off + s.on
  back : ∀ t, t ≠ 0 → d.getD t (-1) ≠ -1 → ∃ i s, sh[i]? = some s ∧ d.getD i (-1) ≠ -1 ∧ t ∈ s.nx
theorem Inv.init {sh : List Sh} (h : 0 < sh.length) : Inv sh ((List.replicate sh.length (-1 : Int)).set 0 0) (List.replicate sh.length false) := by
  have hr : ∀ i, (List.replicate sh.length (-1 : Int)).getD i (-1) = -1 := by
    intro i; simp only [List.getD_eq_getElem?_getD, List.getElem?_replicate]; split <;> rfl
  refine ⟨by simp, by simp, by rw [getD_set, if_pos ⟨rfl, by simpa using h⟩], fun i => ?_, fun i s hs hd => ?_, fun t ht hd => ?_⟩
  · rw [getD_set]; split
    · right; omega
    · left; exact hr i
  · have : i < sh.length := (List.getElem?_eq_some_iff.1 hs).1
    simp [List.getD_eq_getElem?_getD, List.getElem?_replicate, this] at hd
  · rw [getD_set, if_neg (fun hh => ht hh.1)] at hd
    exact absurd (hr t) hd
theorem Inv.step {sh : List Sh} (hon : ∀ s ∈ sh, 0 ≤ s.on) {d r : List Int} {dn : List Bool} (I : Inv sh d dn) {at_ : Nat} {s : Sh} (hl : least d dn = some at_) (hs : sh[at_]? = some s)
    (hok : ¬ (d.getD at_ (-1) < s.off ∨ 16 < d.getD at_ (-1) - s.off + s.on)) (hy : lay sh.length (d.getD at_ (-1) - s.off + s.on) s.nx d = .inr r) : Inv sh r (dn.set at_ true) := by
  obtain ⟨_, h2, h3, h4⟩ := leastF_some hl
  have hs0 := hon s (List.mem_of_getElem? hs)
  have hb : d.getD at_ (-1) - s.off + s.on ≠ -1 := by omega
  obtain ⟨k1, k2, k3⟩ := lay_ok hb I.len hy
  have hat : at_ < sh.length := (List.getElem?_eq_some_iff.1 hs).1
  refine ⟨(lay_len hy).trans I.len, by simpa using I.dlen, by rw [k2 0 (by rw [I.d0]; omega), I.d0], fun i => ?_, fun i s' hs' hd => ?_, fun t ht hd => ?_⟩
  · by_cases hr : r.getD i (-1) = -1
    · exact .inl hr
    · rcases k3 i hr with h | ⟨_, h⟩
      · rw [k2 i h]; exact I.rng i
      · right; rw [h]; omega
  · by_cases hi : i = at_
    · subst hi
      rw [hs] at hs'; cases hs'
      rw [k2 i h3]
      refine ⟨h3, by omega, by omega, fun t ht => k1 t ht⟩
    · rw [getD_set, if_neg (fun hh => hi hh.1)] at hd
      obtain ⟨g1, g2, g3, g4⟩ := I.safe i s' hs' hd
      rw [k2 i g1]
      refine ⟨g1, g2, g3, fun t ht => ?_⟩
      obtain ⟨g5, g6⟩ := g4 t ht
      have := I.rng i
      have hso := hon s' (List.mem_of_getElem? hs')
      exact ⟨g5, by rw [k2 t (by omega), g6]⟩
  · rcases k3 t hd with h | ⟨h, _⟩
    · obtain ⟨i, s', g1, g2, g3⟩ := I.back t ht h
      exact ⟨i, s', g1, by rw [k2 i g2]; exact g2, g3⟩
    · exact ⟨at_, s, hs, by rw [k2 at_ h3]; exact h3, h⟩
theorem reachN_fin {sh : List Sh} (hon : ∀ s ∈ sh, 0 ≤ s.on) : ∀ {k : Nat} {d r : List Int} {dn : List Bool}, Inv sh d dn → reachN sh k d dn = .inr r → Fin sh r
  | 0, d, r, dn, I, h => by simp [reachN] at h
  | k + 1, d, r, dn, I, h => by
    unfold reachN at h
    split at h
    · rename_i hl
      simp only [Sum.inr.injEq] at h; subst h
      refine ⟨I.len, I.d0, I.rng, fun i s hs hd => ?_, I.back⟩
      have hi : i < sh.length := (List.getElem?_eq_some_iff.1 hs).1
      rcases leastF_none hl i (Nat.zero_le _) (by rw [I.len]; omega) with h | h
      · exact absurd h hd
      · exact (I.safe i s hs h).2
    · rename_i at_ hl
      split at h
      · cases h
      · rename_i s hs
        split at h
        · cases h
        · rename_i hok
          split at h
          · cases h
          · rename_i ds' hy
            exact reachN_fin hon (I.step hon hl hs hok hy) h
theorem reach_fin {sh : List Sh} (h0 : 0 < sh.length) (hon : ∀ s ∈ sh, 0 ≤ s.on) {r : List Int} (h : reach sh = .inr r) : Fin sh r := reachN_fin hon (Inv.init h0) h
theorem shapes_get (p : List Fu) (c : List Instr) (i : Nat) : (shapes p c)[i]? = (c[i]?).map fun x => ⟨offP p x, on6 x.op, nextP x i⟩ := by simp [shapes, List.getElem?_mapIdx]
theorem shapes_len (p : List Fu) (c : List Instr) : (shapes p c).length = c.length := by simp [shapes]
theorem shapes_on (p : List Fu) (c : List Instr) : ∀ s ∈ shapes p c, 0 ≤ s.on := by
  intro s hs
  obtain ⟨i, hi⟩ := List.mem_iff_getElem?.1 hs
  rw [shapes_get] at hi
  simp only [Option.map_eq_some_iff] at hi
  obtain ⟨x, _, rfl⟩ := hi
  exact (on6_le _).1
theorem firstE_none {np : Nat} {f : Fu} : ∀ {c : List Instr} {i : Nat}, firstE np f i c = none ↔ ∀ x ∈ c, fieldE np f x = 0
  | [], i => by simp [firstE]
  | x :: c, i => by
    unfold firstE
    split
    · rename_i h; rw [firstE_none]; simp [h]
    · rename_i h; simp [h]
theorem firstE_some {np : Nat} {f : Fu} : ∀ {c : List Instr} {i j : Nat} {e : Int}, firstE np f i c = some (j, e) → e ≠ 0
  | [], i, j, e, h => by simp [firstE] at h
  | x :: c, i, j, e, h => by
    unfold firstE at h
    split at h
    · exact firstE_some h
    · rename_i hn; cases h; exact hn
theorem lay_err {n : Nat} {b : Int} : ∀ {ts : List Nat} {ds : List Int} {e : Int}, lay n b ts ds = .inl e → e ≠ 0
  | [], ds, e, h => by simp [lay] at h
  | t :: ts, ds, e, h => by
    unfold lay at h
    split at h
    · cases h; decide
    · split at h
      · exact lay_err h
      · split at h
        · cases h; decide
        · exact lay_err h
theorem reachN_err {sh : List Sh} : ∀ {k : Nat} {d : List Int} {dn : List Bool} {a e : Int}, reachN sh k d dn = .inl (a, e) → e ≠ 0
  | 0, d, dn, a, e, h => by simp only [reachN, Sum.inl.injEq, Prod.mk.injEq] at h; omega
  | k + 1, d, dn, a, e, h => by
    unfold reachN at h
    split at h
    · cases h
    · split at h
      · simp only [Sum.inl.injEq, Prod.mk.injEq] at h; omega
      · split at h
        · simp only [Sum.inl.injEq, Prod.mk.injEq] at h; omega
        · split at h
          · rename_i e' hy; simp only [Sum.inl.injEq, Prod.mk.injEq] at h; rw [← h.2]; exact lay_err hy
          · exact reachN_err h
theorem funcE_zero {p : List Fu} {f : Fu} : (funcE p f).2 = 0 ↔ f.arity ≤ f.locals ∧ (∀ x ∈ f.c, fieldE p.length f x = 0) ∧ ∃ d, reach (shapes p f.c) = .inr d := by
  unfold funcE
  by_cases h0 : f.locals < f.arity
  · rw [if_pos h0]; constructor
    · intro h; simp at h
    · rintro ⟨h, _⟩; omega
  · rw [if_neg h0]
    cases h1 : firstE p.length f 0 f.c with
    | some r =>
      obtain ⟨i, e⟩ := r
      constructor
      · intro h; exact absurd h (firstE_some h1)
      · rintro ⟨_, h, _⟩
        rw [firstE_none.2 h] at h1; cases h1
    | none =>
      cases h2 : reach (shapes p f.c) with
      | inl r => obtain ⟨a, e⟩ := r; constructor
                 · intro h; exact absurd h (reachN_err h2)
                 · rintro ⟨_, _, d, h⟩; cases h
      | inr d => exact ⟨fun _ => ⟨by omega, firstE_none.1 h1, d, rfl⟩, fun _ => rfl⟩
theorem goE_zero {p : List Fu} : ∀ {fs : List Fu} {i : Nat}, (goE p i fs).2.2 = 0 ↔ ∀ f ∈ fs, (funcE p f).2 = 0
  | [], i => by simp [goE]
  | f :: fs, i => by
    unfold goE
    split
    · rename_i h; rw [goE_zero]; simp [h]
    · rename_i h; simp [h]
/-- nothing is wrong with a program -/
theorem good_iff {p : List Fu} : good p = true ↔ mayP p = true ∧ ∀ f ∈ p, f.arity ≤ f.locals ∧ (∀ x ∈ f.c, fieldE p.length f x = 0) ∧ ∃ d, reach (shapes p f.c) = .inr d := by
  unfold good check
  simp only [beq_iff_eq]
  by_cases h : mayP p = true
  · rw [if_pos h, goE_zero]
    simp only [h, true_and]
    exact ⟨fun k f hf => funcE_zero.1 (k f hf), fun k f hf => funcE_zero.2 (k f hf)⟩
  · rw [if_neg h]; simp [h]
theorem good_check {p : List Fu} : good p = true ↔ check p = (0, 0, 0) := by
  constructor
  · intro h
    obtain ⟨h1, h2⟩ := good_iff.1 h
    unfold check; rw [if_pos h1]
    have : ∀ (fs : List Fu) i, (∀ f ∈ fs, (funcE p f).2 = 0) → goE p i fs = (0, 0, 0) := by
      intro fs
      induction fs with
      | nil => intro i _; rfl
      | cons f fs ih => intro i h; unfold goE; rw [if_pos (h f (by simp))]; exact ih _ fun f hf => h f (by simp [hf])
    exact this p 0 fun f hf => funcE_zero.2 (h2 f hf)
  · intro h; unfold good; rw [h]; rfl
theorem mayP_f {p : List Fu} (h : mayP p = true) {f : Fu} (hf : f ∈ p) : fmay f = true := by
  unfold mayP at h; simp only [Bool.and_eq_true, List.all_eq_true] at h; exact h.1.1 f hf
theorem fmay_len {f : Fu} (h : fmay f = true) : 1 ≤ f.c.length ∧ f.c.length ≤ 200 := by
  unfold fmay at h; simp only [Bool.and_eq_true, decide_eq_true_eq] at h; exact ⟨h.1.1.2, h.1.2⟩
theorem fmay_head {f : Fu} (h : fmay f = true) : 0 ≤ f.arity ∧ f.arity ≤ 16 ∧ 0 ≤ f.locals ∧ f.locals ≤ 16 ∧ 0 ≤ f.slots ∧ f.slots ≤ 8 := by
  unfold fmay headOk at h; simp only [Bool.and_eq_true, decide_eq_true_eq] at h; omega
theorem fmay_all {f : Fu} (h : fmay f = true) : ∀ x ∈ f.c, imay x = true := by
  unfold fmay at h; simp only [Bool.and_eq_true, List.all_eq_true] at h; exact h.2
theorem imay_iff {x : Instr} : imay x = true ↔ 0 ≤ x.op ∧ x.op < 17 ∧ leastA x.op ≤ x.a ∧ x.a ≤ mostA x.op ∧ 0 ≤ x.b ∧ x.b ≤ mostB x.op := by
  unfold imay; simp only [Bool.and_eq_true, decide_eq_true_eq]; constructor <;> (intro h; omega)
theorem imay_a {x : Instr} (h : imay x = true) : 0 ≤ x.a := by
  obtain ⟨_, _, h, _⟩ := imay_iff.1 h
  unfold leastA at h; split at h <;> omega
/-- of a good program: the depths of a function -/
theorem good_fin {p : List Fu} (hg : good p = true) {f : Fu} (hf : f ∈ p) : reach (shapes p f.c) = .inr (depthsOf p f) ∧ Fin (shapes p f.c) (depthsOf p f) := by
  obtain ⟨h1, h2⟩ := good_iff.1 hg
  obtain ⟨_, _, d, hd⟩ := h2 f hf
  have hl := fmay_len (mayP_f h1 hf)
  have e : depthsOf p f = d := by unfold depthsOf; rw [hd]
  rw [e]
  exact ⟨hd, reach_fin (by rw [shapes_len]; omega) (shapes_on _ _) hd⟩
theorem depths_good {p : List Fu} (hg : good p = true) {i : Nat} {f : Fu} (hf : p[i]? = some f) : depths p i = depthsOf p f := by
  unfold depths; rw [if_pos ⟨hg, by omega⟩]; simp [hf]
theorem depths_bad {p : List Fu} (hg : good p = false) (fn : Int) : depths p fn = [] := by unfold depths; rw [if_neg (by simp [hg])]
theorem depths_out {p : List Fu} {fn : Int} (h : fn < 0 ∨ (p.length : Int) ≤ fn) : depths p fn = [] := by
  unfold depths
  split
  · rename_i hc
    rw [List.getElem?_eq_none (by omega)]
  · rfl
end Go.Proofs.YtlpadffinfijgaaW.Md
set_option linter.unusedVariables false
set_option linter.unusedSimpArgs false
namespace Go.Proofs.YtlpadffinfijgaaW.Md
/-! instructions that stand for each other -/
structure ILike (x y : Instr) : Prop where
  may : imay x = imay y
  fld : ∀ np f, fieldE np f x = fieldE np f y
  off : ∀ p, offP p x = offP p y
  on : on6 x.op = on6 y.op
  nx : ∀ i, nextP x i = nextP y i
theorem ILike.refl (x : Instr) : ILike x x := ⟨rfl, fun _ _ => rfl, fun _ => rfl, rfl, fun _ => rfl⟩
structure FLike (f g : Fu) : Prop where
  ar : f.arity = g.arity
  lo : f.locals = g.locals
  sl : f.slots = g.slots
  len : f.c.length = g.c.length
  at_ : ∀ (i : Nat) x y, f.c[i]? = some x → g.c[i]? = some y → ILike x y
theorem FLike.refl (f : Fu) : FLike f f := ⟨rfl, rfl, rfl, rfl, fun i x y h k => by rw [h] at k; cases k; exact .refl x⟩
theorem fieldE_f {np : Nat} {f g : Fu} (h : FLike f g) (x : Instr) : fieldE np f x = fieldE np g x := by
  unfold fieldE; rw [h.lo, h.sl, h.len]
theorem all_like {f g : Fu} (h : FLike f g) : f.c.all imay = g.c.all imay := by
  have : ∀ (a b : List Instr), a.length = b.length → (∀ (i : Nat) x y, a[i]? = some x → b[i]? = some y → ILike x y) → a.all imay = b.all imay := by
    intro a
    induction a with
    | nil => intro b hl _; cases b with
      | nil => rfl
      | cons => simp at hl
    | cons x a ih =>
      intro b hl h
      cases b with
      | nil => simp at hl
      | cons y b =>
        simp only [List.all_cons]
        rw [(h 0 x y rfl rfl).may, ih b (by simpa using hl) fun i u v hu hv => h (i + 1) u v (by simpa using hu) (by simpa using hv)]
  exact this _ _ h.len h.at_
theorem fmay_like {f g : Fu} (h : FLike f g) : fmay f = fmay g := by
  unfold fmay headOk; rw [h.ar, h.lo, h.sl, h.len, all_like h]
theorem firstE_like {np : Nat} {f g : Fu} (h : FLike f g) : ∀ (a b : List Instr) (k : Nat), a.length = b.length → (∀ (i : Nat) x y, a[i]? = some x → b[i]? = some y → ILike x y) → firstE np f k a = firstE np g k b
  | [], [], _, _, _ => rfl
  | [], _ :: _, _, hl, _ => by simp at hl
  | _ :: _, [], _, hl, _ => by simp at hl
  | x :: a, y :: b, k, hl, ha => by
    have e : fieldE np f x = fieldE np g y := by rw [fieldE_f h x]; exact (ha 0 x y rfl rfl).fld np g
    unfold firstE
    rw [e, firstE_like h a b (k + 1) (by simpa using hl) fun i u v hu hv => ha (i + 1) u v (by simpa using hu) (by simpa using hv)]
theorem shapes_like {p : List Fu} {f g : Fu} (h : FLike f g) : shapes p f.c = shapes p g.c := by
  apply List.ext_getElem?
  intro i
  rw [shapes_get, shapes_get]
  cases hx : f.c[i]? with
  | none =>
    have : g.c[i]? = none := by rw [List.getElem?_eq_none_iff] at hx ⊢; rw [← h.len]; exact hx
    rw [this]
  | some x =>
    have hi : i < g.c.length := by rw [← h.len]; exact (List.getElem?_eq_some_iff.1 hx).1
    have hy : g.c[i]? = some g.c[i] := List.getElem?_eq_getElem hi
    have hh := h.at_ i x _ hx hy
    rw [hy]
    simp only [Option.map_some, hh.off, hh.on, hh.nx]
/-- programs of the same arities tell the same of a function -/
theorem offP_ar {p q : List Fu} (h : p.map (·.arity) = q.map (·.arity)) (x : Instr) : offP p x = offP q x := by
  unfold offP
  have : (p[x.a.toNat]?).map (·.arity) = (q[x.a.toNat]?).map (·.arity) := by rw [← List.getElem?_map, ← List.getElem?_map, h]
  rw [this]
theorem shapes_ar {p q : List Fu} (h : p.map (·.arity) = q.map (·.arity)) (c : List Instr) : shapes p c = shapes q c := by
  unfold shapes; simp only [offP_ar h]
theorem funcE_like {p q : List Fu} (h : p.map (·.arity) = q.map (·.arity)) {f g : Fu} (hf : FLike f g) : funcE p f = funcE q g := by
  have hl : p.length = q.length := by have := congrArg List.length h; simpa using this
  unfold funcE
  rw [hf.ar, hf.lo, hl, firstE_like hf f.c g.c 0 hf.len hf.at_, shapes_like hf, shapes_ar h]
theorem check_like {p q : List Fu} (hl : p.length = q.length) (h : ∀ (i : Nat) f g, p[i]? = some f → q[i]? = some g → FLike f g) : check p = check q ∧ p.map (·.arity) = q.map (·.arity) := by
  have har : p.map (·.arity) = q.map (·.arity) := by
    apply List.ext_getElem?
    intro i
    simp only [List.getElem?_map]
    cases hp : p[i]? with
    | none => rw [List.getElem?_eq_none (by rw [← hl]; exact List.getElem?_eq_none_iff.1 hp)]
    | some f =>
      have hi : i < q.length := by rw [← hl]; exact (List.getElem?_eq_some_iff.1 hp).1
      rw [List.getElem?_eq_getElem hi, Option.map_some, Option.map_some, (h i f _ hp (List.getElem?_eq_getElem hi)).ar]
  refine ⟨?_, har⟩
  have hall : ∀ (a b : List Fu), a.length = b.length → (∀ (i : Nat) f g, a[i]? = some f → b[i]? = some g → FLike f g) → a.all fmay = b.all fmay := by
    intro a
    induction a with
    | nil => intro b hl _; cases b with
      | nil => rfl
      | cons => simp at hl
    | cons f a ih =>
      intro b hl h
      cases b with
      | nil => simp at hl
      | cons g b =>
        simp only [List.all_cons]
        rw [fmay_like (h 0 f g rfl rfl), ih b (by simpa using hl) fun i u v hu hv => h (i + 1) u v (by simpa using hu) (by simpa using hv)]
  have hgo : ∀ (a b : List Fu) (k : Nat), a.length = b.length → (∀ (i : Nat) f g, a[i]? = some f → b[i]? = some g → FLike f g) → goE p k a = goE q k b := by
    intro a
    induction a with
    | nil => intro b k hl _; cases b with
      | nil => rfl
      | cons => simp at hl
    | cons f a ih =>
      intro b k hl h
      cases b with
      | nil => simp at hl
      | cons g b =>
        unfold goE
        rw [funcE_like har (h 0 f g rfl rfl), ih b (k + 1) (by simpa using hl) fun i u v hu hv => h (i + 1) u v (by simpa using hu) (by simpa using hv)]
  unfold check mayP
  rw [hall p q hl h, hl, hgo p q 0 hl h]
theorem depths_like {p q : List Fu} (hl : p.length = q.length) (h : ∀ (i : Nat) f g, p[i]? = some f → q[i]? = some g → FLike f g) (fn : Int) : depths p fn = depths q fn := by
  obtain ⟨h1, h2⟩ := check_like hl h
  unfold depths good
  rw [h1]
  by_cases hc : ((check q).2.2 == 0) = true ∧ 0 ≤ fn
  · rw [if_pos hc, if_pos hc]
    cases hp : p[fn.toNat]? with
    | none => rw [List.getElem?_eq_none (by rw [← hl]; exact List.getElem?_eq_none_iff.1 hp)]
    | some f =>
      have hi : fn.toNat < q.length := by rw [← hl]; exact (List.getElem?_eq_some_iff.1 hp).1
      rw [List.getElem?_eq_getElem hi]
      have hf := h _ f _ hp (List.getElem?_eq_getElem hi)
      simp only [depthsOf]
      rw [shapes_like hf, shapes_ar h2]
  · rw [if_neg hc, if_neg hc]
/-! functions behind -/
theorem fieldE_more {np nq : Nat} (h : np ≤ nq) {f : Fu} {x : Instr} (hx : fieldE np f x = 0) : fieldE nq f x = 0 := by
  unfold fieldE at hx ⊢
  (repeat' split at hx) <;> (repeat' split) <;> omega
theorem fieldE_spawn {np : Nat} {f : Fu} {x : Instr} (hx : fieldE np f x = 0) (h : x.op = 13) : x.b < f.slots ∧ x.a < np := by
  unfold fieldE at hx
  rw [if_neg (by omega), if_neg (by omega), if_pos h] at hx
  split at hx
  · omega
  · split at hx <;> omega
theorem shapes_more {p q : List Fu} {c : List Instr} (h : ∀ x ∈ c, x.op = 13 → 0 ≤ x.a ∧ x.a < p.length) : shapes (p ++ q) c = shapes p c := by
  apply List.ext_getElem?
  intro i
  rw [shapes_get, shapes_get]
  cases hx : c[i]? with
  | none => rfl
  | some x =>
    simp only [Option.map_some, Option.some.injEq, Sh.mk.injEq, and_true]
    unfold offP
    split
    · rename_i h13
      obtain ⟨h1, h2⟩ := h x (List.mem_of_getElem? hx) h13
      rw [List.getElem?_append_left (by omega)]
    · rfl
theorem shapes_none {p q : List Fu} {c : List Instr} (h : ∀ x ∈ c, x.op ≠ 13) : shapes p c = shapes q c := by
  apply List.ext_getElem?
  intro i
  rw [shapes_get, shapes_get]
  cases hx : c[i]? with
  | none => rfl
  | some x => simp [offP, h x (List.mem_of_getElem? hx)]
theorem more_good {p q : List Fu} (hp : good p = true) (hq : good q = true) (hl : p.length + q.length ≤ 16) (hs : ∀ f ∈ q, ∀ x ∈ f.c, x.op ≠ 13) :
    good (p ++ q) = true ∧ (∀ (i : Nat) f, p[i]? = some f → depthsOf (p ++ q) f = depthsOf p f) ∧ (∀ (i : Nat) f, q[i]? = some f → depthsOf (p ++ q) f = depthsOf q f) := by
  obtain ⟨p1, p2⟩ := good_iff.1 hp
  obtain ⟨q1, q2⟩ := good_iff.1 hq
  have hpl : 1 ≤ p.length := by unfold mayP at p1; simp only [Bool.and_eq_true, decide_eq_true_eq] at p1; omega
  have sp : ∀ f ∈ p, shapes (p ++ q) f.c = shapes p f.c := fun f hf => shapes_more fun x hx h13 =>
    ⟨imay_a (fmay_all (mayP_f p1 hf) x hx), (fieldE_spawn ((p2 f hf).2.1 x hx) h13).2⟩
  have sq : ∀ f ∈ q, shapes (p ++ q) f.c = shapes q f.c := fun f hf => shapes_none (hs f hf)
  refine ⟨good_iff.2 ⟨?_, fun f hf => ?_⟩, fun i f hf => ?_, fun i f hf => ?_⟩
  · unfold mayP at p1 q1 ⊢
    simp only [Bool.and_eq_true, decide_eq_true_eq, List.all_append, List.length_append] at p1 q1 ⊢
    exact ⟨⟨⟨p1.1.1, q1.1.1⟩, by omega⟩, by omega⟩
  · rcases List.mem_append.1 hf with hf | hf
    · obtain ⟨a, b, c⟩ := p2 f hf
      exact ⟨a, fun x hx => fieldE_more (by simp) (b x hx), by rw [sp f hf]; exact c⟩
    · obtain ⟨a, b, c⟩ := q2 f hf
      exact ⟨a, fun x hx => fieldE_more (by simp) (b x hx), by rw [sq f hf]; exact c⟩
  · unfold depthsOf; rw [sp f (List.mem_of_getElem? hf)]
  · unfold depthsOf; rw [sq f (List.mem_of_getElem? hf)]
/-! an instruction behind -/
theorem leastF_more {ds : List Int} {dn : List Bool} (hl : ds.length = dn.length) : ∀ {k i : Nat}, i + k = ds.length → leastF (ds ++ [-1]) (dn ++ [false]) (k + 1) i = leastF ds dn k i
  | 0, i, h => by
    unfold leastF
    rw [if_neg]
    · rfl
    · rintro ⟨h1, _⟩
      simp only [List.getD_eq_getElem?_getD] at h1
      rw [List.getElem?_append_right (by omega)] at h1
      have : i - ds.length = 0 := by omega
      simp [this] at h1
  | k + 1, i, h => by
    have h1 : (ds ++ [-1]).getD i (-1) = ds.getD i (-1) := by simp only [List.getD_eq_getElem?_getD]; rw [List.getElem?_append_left (by omega)]
    have h2 : (dn ++ [false]).getD i true = dn.getD i true := by simp only [List.getD_eq_getElem?_getD]; rw [List.getElem?_append_left (by omega)]
    have e := leastF_more hl (k := k) (i := i + 1) (by omega)
    rw [show leastF (ds ++ [-1]) (dn ++ [false]) (k + 1 + 1) i = if (ds ++ [-1]).getD i (-1) ≠ -1 ∧ (dn ++ [false]).getD i true = false then some i else leastF (ds ++ [-1]) (dn ++ [false]) (k + 1) (i + 1) from rfl, h1, h2, e]
    rfl
theorem lay_more {n : Nat} {b : Int} : ∀ {ts : List Nat} {ds r : List Int}, ds.length = n → lay n b ts ds = .inr r → lay (n + 1) b ts (ds ++ [-1]) = .inr (r ++ [-1])
  | [], ds, r, hl, h => by simp only [lay, Sum.inr.injEq] at h ⊢; rw [h]
  | t :: ts, ds, r, hl, h => by
    unfold lay at h
    split at h
    · cases h
    · rename_i ht
      have h1 : (ds ++ [-1]).getD t (-1) = ds.getD t (-1) := by simp only [List.getD_eq_getElem?_getD]; rw [List.getElem?_append_left (by omega)]
      unfold lay
      rw [if_neg (by omega), h1]
      split at h
      · rename_i hd
        rw [if_pos hd, List.set_append_left _ _ (by omega)]
        exact lay_more (by simpa using hl) h
      · rename_i hd
        rw [if_neg hd]
        split at h
        · cases h
        · rename_i hb
          rw [if_neg hb]
          exact lay_more hl h
theorem reachN_mono {sh : List Sh} : ∀ {k : Nat} {ds r : List Int} {dn : List Bool}, reachN sh k ds dn = .inr r → reachN sh (k + 1) ds dn = .inr r
  | 0, ds, r, dn, h => by simp [reachN] at h
  | k + 1, ds, r, dn, h => by
    rw [reachN] at h
    rw [reachN]
    split at h
    · exact h
    · split at h
      · cases h
      · split at h
        · cases h
        · split at h
          · cases h
          · rename_i h1 _ _ _
            rw [if_neg h1]
            exact reachN_mono h
theorem reachN_more {sh : List Sh} (s0 : Sh) : ∀ {k : Nat} {ds r : List Int} {dn : List Bool}, ds.length = sh.length → dn.length = sh.length → reachN sh k ds dn = .inr r → reachN (sh ++ [s0]) k (ds ++ [-1]) (dn ++ [false]) = .inr (r ++ [-1])
  | 0, ds, r, dn, h1, h2, h => by simp [reachN] at h
  | k + 1, ds, r, dn, h1, h2, h => by
    have hle : least (ds ++ [-1]) (dn ++ [false]) = least ds dn := by
      unfold least; rw [List.length_append]; exact leastF_more (by omega) (by simp)
    rw [reachN] at h
    rw [reachN, hle]
    split at h
    · rename_i hn
      simp only [Sum.inr.injEq] at h; subst h
      rfl
    · rename_i at_ hn
      split at h
      · cases h
      · rename_i s hs
        have hat : at_ < sh.length := (List.getElem?_eq_some_iff.1 hs).1
        have e1 : (ds ++ [-1]).getD at_ (-1) = ds.getD at_ (-1) := by simp only [List.getD_eq_getElem?_getD]; rw [List.getElem?_append_left (by omega)]
        rw [List.getElem?_append_left hat, hs]
        simp only
        rw [e1]
        split at h
        · cases h
        · rename_i hok
          rw [if_neg hok]
          split at h
          · cases h
          · rename_i ds' hy
            rw [List.length_append, List.length_cons, List.length_nil, lay_more h1 hy, List.set_append_left _ _ (by omega)]
            exact reachN_more s0 ((lay_len hy).trans h1) (by simpa using h2) h
theorem reach_more {sh : List Sh} (s0 : Sh) (h0 : 0 < sh.length) {r : List Int} (h : reach sh = .inr r) : reach (sh ++ [s0]) = .inr (r ++ [-1]) := by
  unfold reach at h ⊢
  rw [List.length_append, List.length_cons, List.length_nil]
  have e := reachN_mono (reachN_more s0 (by simp) (by simp) h)
  have e1 : (List.replicate (sh.length + 1) (-1 : Int)).set 0 0 = (List.replicate sh.length (-1 : Int)).set 0 0 ++ [-1] := by
    rw [List.replicate_succ', List.set_append_left _ _ (by simpa using h0)]
  have e2 : List.replicate (sh.length + 1) false = List.replicate sh.length false ++ [false] := List.replicate_succ'
  rw [e1, e2]; exact e
theorem tail_good {p : List Fu} (hp : good p = true) {i : Nat} {f : Fu} (hf : p[i]? = some f) (hl : f.c.length < 200) {f' : Fu} (ha : f'.arity = f.arity) (hlo : f'.locals = f.locals) (hsl : f'.slots = f.slots) (hc : f'.c = f.c ++ [⟨3, 0, 0⟩]) :
    good (p.set i f') = true ∧ depthsOf (p.set i f') f' = depthsOf p f ++ [-1] := by
  obtain ⟨p1, p2⟩ := good_iff.1 hp
  have hi : i < p.length := (List.getElem?_eq_some_iff.1 hf).1
  have hfm := List.mem_of_getElem? hf
  have har : (p.set i f').map (·.arity) = p.map (·.arity) := by
    apply List.ext_getElem?
    intro j
    simp only [List.getElem?_map, List.getElem?_set]
    split
    · rename_i h; subst h
      rw [hf]; simp [ha]
    · rfl
  have h3 : shapes p f'.c = shapes p f.c ++ [⟨2, 1, [f.c.length + 1]⟩] := by
    rw [hc]; unfold shapes; rw [List.mapIdx_append]; simp [offP, off6, on6, nextP]
  obtain ⟨d1, d2⟩ := good_fin hp hfm
  have hr : reach (shapes (p.set i f') f'.c) = .inr (depthsOf p f ++ [-1]) := by
    rw [shapes_ar har, h3]
    exact reach_more _ (by rw [shapes_len]; have := fmay_len (mayP_f p1 hfm); omega) d1
  refine ⟨good_iff.2 ⟨?_, fun g hg => ?_⟩, by unfold depthsOf; rw [hr]; rfl⟩
  · unfold mayP at p1 ⊢
    simp only [Bool.and_eq_true, decide_eq_true_eq, List.all_eq_true, List.length_set] at p1 ⊢
    refine ⟨⟨fun g hg => ?_, p1.1.2⟩, p1.2⟩
    rcases List.mem_or_eq_of_mem_set hg with h | rfl
    · exact p1.1.1 g h
    · have := p1.1.1 f hfm
      unfold fmay headOk at this ⊢
      rw [ha, hlo, hsl, hc]
      simp only [Bool.and_eq_true, decide_eq_true_eq, List.all_append, List.length_append, List.length_cons, List.length_nil] at this ⊢
      refine ⟨⟨⟨this.1.1.1, by omega⟩, by omega⟩, this.2, by decide⟩
  · rcases List.mem_or_eq_of_mem_set hg with h | rfl
    · obtain ⟨a, b, c⟩ := p2 g h
      exact ⟨a, by rw [List.length_set]; exact b, by rw [shapes_ar har]; exact c⟩
    · obtain ⟨a, b, c⟩ := p2 f hfm
      refine ⟨by rw [ha, hlo]; exact a, fun x hx => ?_, _, hr⟩
      rw [hc] at hx
      rcases List.mem_append.1 hx with hx | hx
      · have h1 := b x hx
        rw [List.length_set]
        unfold fieldE at h1 ⊢
        rw [hlo, hsl, hc, List.length_append, List.length_cons, List.length_nil]
        (repeat' split at h1) <;> (repeat' split) <;> omega
      · simp only [List.mem_singleton] at hx; subst hx
        simp [fieldE]
end Go.Proofs.YtlpadffinfijgaaW.Md
set_option linter.unusedVariables false
set_option linter.unusedSimpArgs false
namespace Go.Proofs.YtlpadffinfijgaaW.Md
structure Vl where
  re : Int
  im : Int
  deriving DecidableEq
def ofG (re im : Int) : Vl := ⟨re % 251, im % 251⟩
def Vl.red (v : Vl) : Vl := ofG v.re v.im
def Vl.may (v : Vl) : Bool := decide (0 ≤ v.re) && decide (v.re < 251) && decide (0 ≤ v.im) && decide (v.im < 251)
def addG (a b : Vl) : Vl := ofG (a.re % 251 + b.re % 251) (a.im % 251 + b.im % 251)
def subG (a b : Vl) : Vl := ofG (a.re % 251 - b.re % 251) (a.im % 251 - b.im % 251)
def mulG (a b : Vl) : Vl := ofG (a.re % 251 * (b.re % 251) - a.im % 251 * (b.im % 251)) (a.re % 251 * (b.im % 251) + a.im % 251 * (b.re % 251))
def conjG (a : Vl) : Vl := ofG (a.re % 251) (-(a.im % 251))
def oneG : Vl := ⟨1, 0⟩
/-- the program's power -/
def powL : Nat → Nat → Vl → Vl → Vl
  | 0, _, o, _ => o
  | k + 1, n, o, a => if n = 0 then o else powL k (n / 2) (if n % 2 = 1 then mulG o a else o) (mulG a a)
/-- the least inverse -/
def invF : Nat → Int → Int → Int
  | 0, _, _ => 0
  | m + 1, k, n => if n * k % 251 = 1 then k else invF m (k + 1) n
def invG (n : Int) : Int := invF 250 1 n
def normG (y : Vl) : Int := (y.re * y.re + y.im * y.im) % 251
/-- the document's quotient -/
def divG (a b : Vl) : Option Vl :=
  if normG b.red = 0 then none else some (ofG ((mulG a (conjG b.red)).re * invG (normG b.red)) ((mulG a (conjG b.red)).im * invG (normG b.red)))
def mulZ (a b : Vl) : Vl := ⟨a.re * b.re - a.im * b.im, a.re * b.im + a.im * b.re⟩
def pw (a : Vl) : Nat → Vl
  | 0 => oneG
  | n + 1 => mulG (pw a n) a
theorem em (a : Int) : a % 251 = a - 251 * (a / 251) := by have := Int.emod_add_mul_ediv a 251; omega
theorem modeq {x y : Int} (q : Int) (h : x = y + 251 * q) : x % 251 = y % 251 := by rw [h, Int.add_mul_emod_self_left]
theorem mulG_Z (a b : Vl) : mulG a b = (mulZ a b).red := by
  unfold mulG mulZ Vl.red ofG
  simp only [Vl.mk.injEq]
  rw [em a.re, em a.im, em b.re, em b.im]
  generalize a.re / 251 = p; generalize a.im / 251 = q; generalize b.re / 251 = r; generalize b.im / 251 = s
  constructor
  · exact modeq (-(p * b.re) - a.re * r + 251 * p * r + q * b.im + a.im * s - 251 * q * s) (by grind)
  · exact modeq (-(p * b.im) - a.re * s + 251 * p * s - q * b.re - a.im * r + 251 * q * r) (by grind)
theorem red_red (a : Vl) : a.red.red = a.red := by simp [Vl.red, ofG]
theorem mulG_red_l (a b : Vl) : mulG a.red b = mulG a b := by simp [mulG, Vl.red, ofG]
theorem mulG_red_r (a b : Vl) : mulG a b.red = mulG a b := by simp [mulG, Vl.red, ofG]
theorem mulG_comm (a b : Vl) : mulG a b = mulG b a := by
  rw [mulG_Z, mulG_Z]; congr 1; unfold mulZ; simp only [Vl.mk.injEq]; constructor <;> grind
theorem mulG_assoc (a b c : Vl) : mulG (mulG a b) c = mulG a (mulG b c) := by
  rw [mulG_Z a b, mulG_Z b c, mulG_red_l, mulG_red_r, mulG_Z, mulG_Z]; congr 1; unfold mulZ; simp only [Vl.mk.injEq]; constructor <;> grind
theorem mulG_red (a b : Vl) : (mulG a b).red = mulG a b := by rw [mulG_Z, red_red]
theorem one_mulG (a : Vl) : mulG oneG a = a.red := by rw [mulG_Z]; congr 1; unfold mulZ oneG; cases a; simp
theorem mulG_one (a : Vl) : mulG a oneG = a.red := by rw [mulG_comm, one_mulG]
theorem pw_red (a : Vl) (n : Nat) : (pw a n).red = pw a n := by cases n with | zero => rfl | succ n => exact mulG_red _ _
theorem pw_mul (a b : Vl) : ∀ n, pw (mulG a b) n = mulG (pw a n) (pw b n)
  | 0 => by simp only [pw]; decide
  | n + 1 => by
    simp only [pw]
    rw [pw_mul a b n, mulG_assoc, ← mulG_assoc (pw b n), mulG_comm (pw b n) a, mulG_assoc a, ← mulG_assoc]
theorem pw_add (a : Vl) (m : Nat) : ∀ n, pw a (m + n) = mulG (pw a m) (pw a n)
  | 0 => by simp only [pw, Nat.add_zero]; rw [mulG_one, pw_red]
  | n + 1 => by rw [← Nat.add_assoc]; simp only [pw]; rw [pw_add a m n, mulG_assoc]
theorem pw_one (a : Vl) : pw a 1 = a.red := by simp only [pw]; rw [one_mulG]
theorem pw_redb (a : Vl) : ∀ n, pw a.red n = pw a n
  | 0 => rfl
  | n + 1 => by simp only [pw]; rw [pw_redb a n, mulG_red_r]
theorem pw_sq (a : Vl) (n : Nat) : pw (mulG a a) n = pw a (2 * n) := by rw [pw_mul, ← pw_add]; congr 1; omega
theorem powL_eq : ∀ (k n : Nat) (o a : Vl), n < 2 ^ k → o.red = o → powL k n o a = mulG o (pw a n)
  | 0, n, o, a, h, ho => by
    have : n = 0 := by simpa using h
    subst this
    show o = mulG o oneG
    rw [mulG_one, ho]
  | k + 1, n, o, a, h, ho => by
    unfold powL
    split
    · rename_i h0; subst h0; show o = mulG o oneG; rw [mulG_one, ho]
    · rename_i h0
      have hk : n / 2 < 2 ^ k := by rw [Nat.pow_succ] at h; omega
      split
      · rename_i h1
        rw [powL_eq k _ _ _ hk (mulG_red _ _), pw_sq, mulG_assoc]
        congr 1
        have : n = 1 + 2 * (n / 2) := by omega
        conv => rhs; rw [this, pw_add, pw_one, mulG_red_l]
      · rename_i h1
        rw [powL_eq k _ _ _ hk ho, pw_sq]
        congr 2
        omega
theorem pow_re : ∀ x : _root_.Fin 251, x.val = 0 ∨ powL 16 63000 oneG ⟨x.val, 0⟩ = oneG := by decide +kernel
theorem pow_im : ∀ x : _root_.Fin 251, x.val = 0 ∨ powL 16 63000 oneG ⟨0, x.val⟩ = oneG := by decide +kernel
theorem pow_t : ∀ x : _root_.Fin 251, powL 16 63000 oneG ⟨1, x.val⟩ = oneG := by decide +kernel
theorem inv_all : ∀ x : _root_.Fin 251, x.val = 0 ∨ ((x.val : Int) * invG x.val % 251 = 1) := by decide +kernel
theorem norm_all : (List.range 251).all (fun x => (List.range 251).all fun y => (x * x + y * y) % 251 != 0 || (x == 0 && y == 0)) = true := by decide +kernel
theorem fin251 {n : Int} (h0 : 0 ≤ n) (h1 : n < 251) : ∃ k : _root_.Fin 251, n = (k.val : Int) := ⟨⟨n.toNat, by omega⟩, by simp; omega⟩
theorem inv_spec {x : Int} (h0 : 0 < x) (h1 : x < 251) : x * invG x % 251 = 1 := by
  obtain ⟨k, rfl⟩ := fin251 (by omega) h1
  rcases inv_all k with h | h
  · omega
  · exact h
theorem norm_zero {x y : Int} (hx : 0 ≤ x ∧ x < 251) (hy : 0 ≤ y ∧ y < 251) (h : (x * x + y * y) % 251 = 0) : x = 0 ∧ y = 0 := by
  obtain ⟨a, rfl⟩ := fin251 hx.1 hx.2
  obtain ⟨b, rfl⟩ := fin251 hy.1 hy.2
  have := List.all_eq_true.1 (List.all_eq_true.1 norm_all a.val (by simp)) b.val (by simp)
  simp only [Bool.or_eq_true, bne_iff_ne, ne_eq, Bool.and_eq_true, beq_iff_eq] at this
  rcases this with h2 | h2
  · exfalso; apply h2
    have : ((a.val * a.val + b.val * b.val : Nat) : Int) % 251 = 0 := by simpa using h
    omega
  · omega
theorem pw_full {b : Vl} (hb : b.red = b) (h : b ≠ ⟨0, 0⟩) : pw b 63000 = oneG := by
  have hone : oneG.red = oneG := by decide
  have hx : 0 ≤ b.re ∧ b.re < 251 := by rw [← hb]; unfold Vl.red ofG; simp only; omega
  have hy : 0 ≤ b.im ∧ b.im < 251 := by rw [← hb]; unfold Vl.red ofG; simp only; omega
  obtain ⟨x, y⟩ := b
  simp only at hx hy
  have L := fun a => powL_eq 16 63000 oneG a (by decide) hone
  have L1 : ∀ a : Vl, powL 16 63000 oneG a = oneG → pw a 63000 = oneG := fun a h => by rw [L, one_mulG, pw_red] at h; exact h
  by_cases h0 : x = 0
  · subst h0
    obtain ⟨k, rfl⟩ := fin251 hy.1 hy.2
    rcases pow_im k with h2 | h2
    · exfalso; apply h; simp [h2]
    · exact L1 _ h2
  · have hi := inv_spec (x := x) (by omega) hx.2
    have ht : 0 ≤ y * invG x % 251 ∧ y * invG x % 251 < 251 := by omega
    have e : (⟨x, y⟩ : Vl) = mulG ⟨x, 0⟩ ⟨1, y * invG x % 251⟩ := by
      rw [mulG_Z]
      unfold mulZ Vl.red ofG
      simp only [Vl.mk.injEq]
      refine ⟨by simp; omega, ?_⟩
      generalize invG x = i at *
      have e1 : x * (y * i % 251) % 251 = y % 251 := by
        rw [em (y * i)]
        have e2 : x * i = 1 + 251 * (x * i / 251) := by have := Int.emod_add_mul_ediv (x * i) 251; omega
        generalize y * i / 251 = q
        generalize x * i / 251 = r at e2
        refine modeq (y * r - x * q) ?_
        have : x * (y * i - 251 * q) = y * (x * i) - 251 * (x * q) := by grind
        rw [this, e2]; grind
      simp only [Int.zero_mul, Int.add_zero]
      rw [e1]; omega
    rw [e, pw_mul]
    obtain ⟨k, hk⟩ := fin251 hx.1 hx.2
    obtain ⟨t, ht'⟩ := fin251 ht.1 ht.2
    rw [ht']
    subst hk
    rcases pow_re k with h2 | h2
    · exact absurd (by simp [h2]) h0
    · rw [L1 _ h2, L1 _ (pow_t t)]; decide
/-- the quotient by a power is the document's -/
theorem div_pow (a b : Vl) (h : normG b.red ≠ 0) : divG a b = some (mulG a (powL 16 62999 oneG b.red)) := by
  have hone : oneG.red = oneG := by decide
  have hb : b.red.red = b.red := red_red b
  unfold divG
  rw [if_neg h]
  generalize b.red = c at *
  have hx : 0 ≤ c.re ∧ c.re < 251 := by rw [← hb]; unfold Vl.red ofG; simp only; omega
  have hy : 0 ≤ c.im ∧ c.im < 251 := by rw [← hb]; unfold Vl.red ofG; simp only; omega
  have hc : c ≠ ⟨0, 0⟩ := by rintro rfl; exact h (by decide)
  have hn : 0 ≤ normG c ∧ normG c < 251 := by unfold normG; omega
  have hi := inv_spec (x := normG c) (by omega) hn.2
  have hN : (c.re * c.re + c.im * c.im) % 251 = normG c := rfl
  generalize normG c = n at *
  generalize invG n = i at *
  have hinv : mulG c (mulG (conjG c) ⟨i, 0⟩) = oneG := by
    rw [mulG_Z, mulG_Z, show (mulZ c (mulZ (conjG c) ⟨i, 0⟩).red).red = mulG c (mulZ (conjG c) ⟨i, 0⟩).red from (mulG_Z _ _).symm, mulG_red_r, mulG_Z]
    have e1 : c.re % 251 = c.re := by omega
    have e2 : c.im % 251 = c.im := by omega
    have e3 : (conjG c).re = c.re := by unfold conjG ofG; simp only; rw [e1, e1]
    have e4 : (conjG c).im = -c.im - 251 * (-c.im / 251) := by unfold conjG ofG; simp only; rw [e2, em]
    unfold mulZ Vl.red ofG oneG
    simp only [e3, e4, Vl.mk.injEq]
    generalize -c.im / 251 = q
    have e5 : c.re * c.re + c.im * c.im = n + 251 * ((c.re * c.re + c.im * c.im) / 251) := by have := Int.emod_add_mul_ediv (c.re * c.re + c.im * c.im) 251; omega
    have e6 : n * i = 1 + 251 * (n * i / 251) := by have := Int.emod_add_mul_ediv (n * i) 251; omega
    generalize (c.re * c.re + c.im * c.im) / 251 = r at e5
    generalize n * i / 251 = s at e6
    constructor
    · rw [show (1 : Int) = 1 % 251 by decide]
      refine modeq (s + r * i + c.im * q * i) ?_
      have : c.re * (c.re * i - (-c.im - 251 * q) * 0) - c.im * (c.re * 0 + (-c.im - 251 * q) * i) = (c.re * c.re + c.im * c.im) * i + 251 * (c.im * q * i) := by grind
      rw [this, e5]
      have : (n + 251 * r) * i = n * i + 251 * (r * i) := by grind
      rw [this, e6]; grind
    · rw [show (0 : Int) = 0 % 251 by decide]
      exact modeq (-(c.re * q * i)) (by grind)
  have h1 : pw c 62999 = mulG (conjG c) ⟨i, 0⟩ := by
    have e : pw c 63000 = mulG (pw c 62999) c := rfl
    rw [pw_full hb hc] at e
    calc pw c 62999 = mulG (pw c 62999) oneG := by rw [mulG_one, pw_red]
      _ = mulG (pw c 62999) (mulG c (mulG (conjG c) ⟨i, 0⟩)) := by rw [hinv]
      _ = mulG (mulG (pw c 62999) c) (mulG (conjG c) ⟨i, 0⟩) := by rw [mulG_assoc]
      _ = mulG (conjG c) ⟨i, 0⟩ := by rw [← e, one_mulG, mulG_red]
  rw [powL_eq 16 62999 oneG c (by decide) hone, one_mulG, pw_red, h1, ← mulG_assoc, mulG_Z (mulG a (conjG c))]
  unfold mulZ Vl.red ofG
  simp
theorem divG_none (a b : Vl) : divG a b = none ↔ b.red = ⟨0, 0⟩ := by
  unfold divG
  constructor
  · intro h
    split at h
    · rename_i h0
      have hx : 0 ≤ b.red.re ∧ b.red.re < 251 := by unfold Vl.red ofG; simp only; omega
      have hy : 0 ≤ b.red.im ∧ b.red.im < 251 := by unfold Vl.red ofG; simp only; omega
      obtain ⟨h1, h2⟩ := norm_zero hx hy h0
      cases hb : b.red with | mk p q => rw [hb] at h1 h2; simp only at h1 h2; rw [h1, h2]
    · cases h
  · intro h
    rw [h, if_pos (by decide)]
end Go.Proofs.YtlpadffinfijgaaW.Md
namespace Go.Proofs.YtlpadffinfijgaaW.Md
open Go Go.RowKit

theorem xor_nat (k : IntKind) (j : Nat) (hj : j ≤ k.bits) (hk : ∀ n : Int, 0 ≤ n → n < 2 ^ j → k.wrap n = n) (a b : Nat) (ha : a < 2 ^ j) (hb : b < 2 ^ j) :
    Go.bits .xor k a b = ((a ^^^ b : Nat) : Int) := by
  have hp : 2 ^ j ≤ 2 ^ k.bits := Nat.pow_le_pow_right (by decide) hj
  have ha' : a % 2 ^ k.bits = a := Nat.mod_eq_of_lt (Nat.lt_of_lt_of_le ha hp)
  have hb' : b % 2 ^ k.bits = b := Nat.mod_eq_of_lt (Nat.lt_of_lt_of_le hb hp)
  have cast : ∀ n : Nat, n < 2 ^ j → ((n : Nat) : Int) < 2 ^ j := fun n h => by exact_mod_cast h
  simp only [Go.bits, BitVec.ofInt_natCast, BitVec.toNat_xor, BitVec.toNat_ofNat, ha', hb']
  exact hk _ (Int.natCast_nonneg _) (cast _ (Nat.xor_lt_two_pow ha hb))

theorem xor_u32 (a b : Nat) (ha : a < 4294967296) (hb : b < 4294967296) : Go.bits .xor .u32 a b = ((a ^^^ b : Nat) : Int) :=
  xor_nat .u32 32 (by decide) (fun n h0 h1 => by rw [IntKind.wrap_u32]; omega) a b ha hb
theorem xor_i64 (a b : Nat) (ha : a < 4294967296) (hb : b < 4294967296) : Go.bits .xor .i64 a b = ((a ^^^ b : Nat) : Int) :=
  xor_nat .i64 32 (by decide) (fun n h0 h1 => by rw [IntKind.wrap_i64]; omega) a b ha hb

theorem xor_lt (a b : Nat) (ha : a < 4294967296) (hb : b < 4294967296) : a ^^^ b < 4294967296 := Nat.xor_lt_two_pow (n := 32) ha hb

theorem xor_zero {x y : Nat} (h : x ^^^ y = 0) : x = y := by
  have := congrArg (· ^^^ y) h
  simpa [Nat.xor_assoc] using this
theorem inv_inj (m g v a b : Nat) (hv : g * v % m = 1) (ha : a < m) (hb : b < m) (h : a * g % m = b * g % m) : a = b := by
  have key : ∀ x, x < m → x = (x * g % m) * v % m := fun x hx => by
    rw [Nat.mod_mul_mod, Nat.mul_assoc, Nat.mul_mod, hv, Nat.mul_one, Nat.mod_mod, Nat.mod_eq_of_lt hx]
  rw [key a ha, key b hb, h]

/-- one turn's first half: x XOR its upper part -/
def fold (k x : Nat) : Nat := x ^^^ (x / 2 ^ k)
theorem fold_lt (k x : Nat) (h : x < 4294967296) : fold k x < 4294967296 := xor_lt _ _ h (Nat.lt_of_le_of_lt (Nat.div_le_self _ _) h)
theorem fold_inj (k : Nat) (hk : 0 < k) (x y : Nat) (h : fold k x = fold k y) : x = y := by
  unfold fold at h
  rw [← Nat.shiftRight_eq_div_pow, ← Nat.shiftRight_eq_div_pow] at h
  have hz : x ^^^ y = (x ^^^ y) >>> k := by
    rw [Nat.shiftRight_xor_distrib]
    have h1 : x ^^^ y ^^^ (x >>> k ^^^ y >>> k) = 0 := by
      have : x ^^^ y ^^^ (x >>> k ^^^ y >>> k) = (x ^^^ x >>> k) ^^^ (y ^^^ y >>> k) := by ac_rfl
      rw [this, h, Nat.xor_self]
    exact xor_zero h1
  have h0 : x ^^^ y = 0 := by
    rw [Nat.shiftRight_eq_div_pow] at hz
    have h2 : 2 ≤ 2 ^ k := by
      have := Nat.pow_le_pow_right (n := 2) (by decide) hk
      simpa using this
    by_cases hx : x ^^^ y = 0
    · exact hx
    · have := Nat.div_lt_self (Nat.pos_of_ne_zero hx) h2
      omega
  exact xor_zero h0

theorem xor_inj_left (a x y : Nat) (h : a ^^^ x = a ^^^ y) : x = y := by
  have := congrArg (a ^^^ ·) h
  simpa [← Nat.xor_assoc] using this
theorem xor_inj_right (a x y : Nat) (h : x ^^^ a = y ^^^ a) : x = y := by
  rw [Nat.xor_comm x, Nat.xor_comm y] at h
  exact xor_inj_left a x y h

def G (n : Nat) : Nat := (n + 1) % 4294967296 * 2654435761 % 4294967296
theorem G_def (n : Nat) : G n = (n + 1) % 4294967296 * 2654435761 % 4294967296 := rfl
theorem G_lt (n : Nat) : G n < 4294967296 := Nat.mod_lt _ (by decide)
theorem G_inj (a b : Nat) (ha : a < 4294967296) (hb : b < 4294967296) (h : G a = G b) : a = b := by
  have h1 := inv_inj 4294967296 2654435761 244002641 _ _ (by decide) (Nat.mod_lt _ (by decide)) (Nat.mod_lt _ (by decide)) h
  omega
def M (x : Nat) : Nat := x * 2246822507 % 4294967296
theorem M_def (x : Nat) : M x = x * 2246822507 % 4294967296 := rfl
theorem M_lt (n : Nat) : M n < 4294967296 := Nat.mod_lt _ (by decide)
theorem M_inj (a b : Nat) (ha : a < 4294967296) (hb : b < 4294967296) (h : M a = M b) : a = b :=
  inv_inj 4294967296 2246822507 2781581891 _ _ (by decide) ha hb h

def mix (s n : Nat) : Nat := fold 13 (M (fold 15 (M (fold 15 (s ^^^ G n)))))
theorem mix_def (s n : Nat) : mix s n = fold 13 (M (fold 15 (M (fold 15 (s ^^^ G n))))) := rfl
theorem mix_lt (s n : Nat) : mix s n < 4294967296 := fold_lt _ _ (M_lt _)
theorem mix_core (x y : Nat) (hx : x < 4294967296) (hy : y < 4294967296) (h : fold 13 (M (fold 15 (M (fold 15 x)))) = fold 13 (M (fold 15 (M (fold 15 y))))) : x = y := by
  have h1 := fold_inj 13 (by decide) _ _ h
  have h2 := M_inj _ _ (fold_lt _ _ (M_lt _)) (fold_lt _ _ (M_lt _)) h1
  have h3 := fold_inj 15 (by decide) _ _ h2
  have h4 := M_inj _ _ (fold_lt _ _ hx) (fold_lt _ _ hy) h3
  exact fold_inj 15 (by decide) _ _ h4
theorem mix_seed (a b n : Nat) (ha : a < 4294967296) (hb : b < 4294967296) (h : mix a n = mix b n) : a = b :=
  xor_inj_right (G n) _ _ (mix_core _ _ (xor_lt _ _ ha (G_lt _)) (xor_lt _ _ hb (G_lt _)) h)
theorem mix_num (s a b : Nat) (hs : s < 4294967296) (ha : a < 4294967296) (hb : b < 4294967296) (h : mix s a = mix s b) : a = b :=
  G_inj a b ha hb (xor_inj_left s _ _ (mix_core _ _ (xor_lt _ _ hs (G_lt _)) (xor_lt _ _ hs (G_lt _)) h))

def child (s k : Nat) : Nat := mix (mix s 1) k
theorem child_lt (s n : Nat) : child s n < 4294967296 := mix_lt _ _
theorem child_seed (a b n : Nat) (ha : a < 4294967296) (hb : b < 4294967296) (h : child a n = child b n) : a = b :=
  mix_seed _ _ _ ha hb (mix_seed _ _ _ (mix_lt _ _) (mix_lt _ _) h)
theorem child_num (s a b : Nat) (ha : a < 4294967296) (hb : b < 4294967296) (h : child s a = child s b) : a = b :=
  mix_num _ _ _ (mix_lt _ _) ha hb h

/-- is it a seed? -/
def isS (n : Int) : Bool := decide (0 ≤ n ∧ n ≤ 4294967295)
def mixI (s n : Int) : Int := if isS s && isS n then (mix s.toNat n.toNat : Int) else 0
def childI (s n : Int) : Int := if isS s && isS n then (child s.toNat n.toNat : Int) else 0
/-- a draw's two numbers -/
def drawI (s n : Int) : Int × Int := if isS s && isS n then ((mix (mix s.toNat 2) n.toNat : Int) % 251, (mix (mix s.toNat 2) n.toNat : Int) / 65536 % 251) else (0, 0)

theorem xor_u32_div (x k : Nat) (h : x < 4294967296) : Go.bits .xor .u32 (x : Int) ((x : Int) / ((2 ^ k : Nat) : Int)) = ((fold k x : Nat) : Int) := by
  rw [← Int.natCast_ediv, xor_u32 _ _ h (Nat.lt_of_le_of_lt (Nat.div_le_self _ _) h)]; rfl
end Go.Proofs.YtlpadffinfijgaaW.Md
set_option linter.unusedVariables false
set_option linter.unusedSimpArgs false
namespace Go.Proofs.YtlpadffinfijgaaW.Md
open Go
structure Rf where
  ag : Int
  gen : Int
  deriving DecidableEq
structure Ou where
  trap : Int
  v : Vl
  deriving DecidableEq
structure Slt where
  state : Int
  kid : Rf
  out : Ou
  deriving DecidableEq
structure Fr where
  fn : Int
  pc : Int
  stack : List Vl
  locals : List Vl
  slots : List Slt
  seed : Int
  spawned : Int
  draws : Int
  state : Int
  wait : Int
  out : Ou
  up : Rf
  upSlot : Int
  deriving DecidableEq
structure Ac where
  kind : Int
  fn : Int
  slot : Int
  seed : Int
  args : List Vl
  deriving DecidableEq
def v0 : Vl := ⟨0, 0⟩
def o0 : Ou := ⟨0, v0⟩
def noK : Rf := ⟨-1, 0⟩
def s0 : Slt := ⟨0, ⟨0, 0⟩, o0⟩
def acN (k : Int) : Ac := ⟨k, 0, 0, 0, []⟩
def drawV (s k : Int) : Vl := ⟨(drawI s k).1, (drawI s k).2⟩
def codeOf (p : List Fu) (fn : Int) : List Instr := ((p[fn.toNat]?).map Fu.c).getD []
def thereX (p : List Fu) (f : Fr) (x : Instr) : Bool :=
  imay x && (if x.op = 1 ∨ x.op = 2 then decide (x.a < f.locals.length) else if x.op = 14 then decide (x.a < f.slots.length) else if x.op = 13 then decide (x.a < p.length) && decide (x.b < f.slots.length) else true)
def instrAt (p : List Fu) (f : Fr) : Option Instr :=
  if 0 ≤ f.pc then match (codeOf p f.fn)[f.pc.toNat]? with
    | some x => if thereX p f x then some x else none
    | none => none
  else none
def roomX (p : List Fu) (f : Fr) (x : Instr) : Bool :=
  decide (0 ≤ offP p x) && decide (offP p x ≤ f.stack.length) && (decide (on6 x.op = 0) || decide ((f.stack.length : Int) - offP p x + on6 x.op ≤ 16))
def endF (f : Fr) (o : Ou) : Fr × Ac := ({ f with state := 2, out := o }, acN 4)
def trapF (f : Fr) (c : Int) : Fr × Ac := endF f ⟨c, v0⟩
def popF (f : Fr) (n : Nat) : Fr := { f with stack := f.stack.take (f.stack.length - n) }
def topV (f : Fr) (n : Nat) : List Vl := f.stack.drop (f.stack.length - n)
def pushF (f : Fr) (l : List Vl) : Fr := { f with stack := f.stack ++ l }
def nextF (f : Fr) : Fr := { f with pc := f.pc + 1 }
def slotAt (f : Fr) (i : Int) : Slt := (f.slots[i.toNat]?).getD s0
def setSlot (f : Fr) (i : Int) (s : Slt) : Fr := { f with slots := f.slots.set i.toNat s }
def spawnF (p : List Fu) (f : Fr) (x : Instr) : Fr × Ac :=
  if (slotAt f x.b).state ≠ 0 then trapF f 2
  else ({ nextF (popF (setSlot f x.b ⟨1, noK, o0⟩) (offP p x).toNat) with spawned := IntKind.i64.wrap (f.spawned + 1) }, ⟨2, x.a, x.b, childI f.seed f.spawned, topV f (offP p x).toNat⟩)
def joinF (f : Fr) (x : Instr) : Fr × Ac :=
  if (slotAt f x.a).state = 1 then ({ f with state := 1, wait := x.a }, acN 3)
  else if (slotAt f x.a).state ≠ 2 then trapF f 2
  else if (slotAt f x.a).out.trap ≠ 0 then trapF (setSlot f x.a s0) (slotAt f x.a).out.trap
  else (nextF (pushF (setSlot f x.a s0) [(slotAt f x.a).out.v]), acN 1)
def a0 (f : Fr) (n : Nat) : Vl := ((topV f n)[0]?).getD v0
def a1 (f : Fr) (n : Nat) : Vl := ((topV f n)[1]?).getD v0
def twoF (f : Fr) (x : Instr) : Fr × Ac :=
  if x.op = 6 then match divG (a0 f 2) (a1 f 2) with
    | none => trapF f 1
    | some q => (nextF (pushF (popF f 2) [q]), acN 1)
  else (nextF (pushF (popF f 2) [if x.op = 3 then addG (a0 f 2) (a1 f 2) else if x.op = 4 then subG (a0 f 2) (a1 f 2) else mulG (a0 f 2) (a1 f 2)]), acN 1)
def plainF (f : Fr) (x : Instr) : Fr × Ac :=
  if x.op = 0 then (nextF (pushF f [ofG x.a x.b]), acN 1)
  else if x.op = 1 then (nextF (pushF f [(f.locals[x.a.toNat]?).getD v0]), acN 1)
  else if x.op = 2 then (nextF (popF { f with locals := f.locals.set x.a.toNat (a0 f 1) } 1), acN 1)
  else if x.op = 7 then (nextF (pushF (popF f 1) [conjG (a0 f 1)]), acN 1)
  else if x.op = 8 then (nextF (pushF (popF f 1) [a0 f 1, a0 f 1]), acN 1)
  else if x.op = 9 then (nextF (popF f 1), acN 1)
  else if x.op = 10 then ({ f with pc := x.a }, acN 1)
  else if x.op = 11 then (if (a0 f 1).red = v0 then { popF f 1 with pc := x.a } else nextF (popF f 1), acN 1)
  else (nextF { pushF f [drawV f.seed f.draws] with draws := IntKind.i64.wrap (f.draws + 1) }, acN 1)
def runX (p : List Fu) (f : Fr) (x : Instr) : Fr × Ac :=
  if x.op = 16 then trapF f x.a
  else if x.op = 15 then endF (popF f 1) ⟨0, a0 f 1⟩
  else if x.op = 13 then spawnF p f x
  else if x.op = 14 then joinF f x
  else if x.op = 3 ∨ x.op = 4 ∨ x.op = 5 ∨ x.op = 6 then twoF f x
  else plainF f x
/-- what an instruction does -/
def doF (p : List Fu) (f : Fr) : Fr × Ac :=
  if f.state ≠ 0 ∨ f.fn < 0 ∨ (p.length : Int) ≤ f.fn then (f, acN 0)
  else match instrAt p f with
    | none => trapF f 4
    | some x => if roomX p f x then runX p f x else trapF f 3
/-- a child's end is given -/
def giveF (f : Fr) (i : Int) (o : Ou) : Fr × Bool :=
  if i < 0 ∨ (f.slots.length : Int) ≤ i ∨ (slotAt f i).state ≠ 1 then (f, false)
  else (if f.state = 1 ∧ f.wait = i then { setSlot f i ⟨2, noK, o⟩ with state := 0, wait := 0 } else setSlot f i ⟨2, noK, o⟩, true)
def finT : List Slt → Option Int
  | [] => none
  | s :: l => if s.state = 2 ∧ s.out.trap ≠ 0 then some s.out.trap else finT l
/-- how a frame ends -/
def finF (f : Fr) : Ou × Bool :=
  if f.state ≠ 2 ∨ f.slots.any (fun s => s.state == 1) = true then (o0, false)
  else if f.out.trap ≠ 0 then (f.out, true)
  else match finT f.slots with
    | some c => (⟨c, v0⟩, true)
    | none => (f.out, true)
def newF (p : List Fu) (fn : Int) (args : List Vl) (s : Int) : Option Fr :=
  if mayP p = true ∧ 0 ≤ fn ∧ fn < p.length ∧ isS s = true then
    match p[fn.toNat]? with
    | none => none
    | some x => if x.arity ≤ x.locals ∧ (args.length : Int) = x.arity ∧ args.all Vl.may = true then
        some ⟨fn, 0, [], args ++ List.replicate (x.locals.toNat - args.length) v0, List.replicate x.slots.toNat s0, s, 0, 0, 0, 0, o0, noK, 0⟩
      else none
  else none
end Go.Proofs.YtlpadffinfijgaaW.Md
