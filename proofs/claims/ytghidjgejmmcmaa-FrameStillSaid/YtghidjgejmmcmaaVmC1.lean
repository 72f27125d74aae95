/- Programs and their check, as plain functions over lists and numbers, and what follows. No conditions. -/
import Derived.IntWalk
set_option linter.unusedVariables false
set_option linter.unusedSimpArgs false
namespace Go.Proofs.YtghidjgejmmcmaaW.Md
structure Instr where
  op : Int
  a : Int
  b : Int
  deriving DecidableEq
structure Fu where
  arity : Int
  locals : Int
  slots : Int
  code : Option (List Instr)
def Fu.c (f : Fu) : List Instr := f.code.getD []
def fields (n : Int) : Int := if n = 0 ∨ n = 13 then 2 else if n = 1 ∨ n = 2 ∨ n = 10 ∨ n = 11 ∨ n = 14 ∨ n = 16 then 1 else 0
def off6 (n : Int) : Int := if n = 3 ∨ n = 4 ∨ n = 5 ∨ n = 6 then 2 else if n = 2 ∨ n = 7 ∨ n = 8 ∨ n = 9 ∨ n = 11 ∨ n = 15 then 1 else 0
def on6 (n : Int) : Int := if n = 8 then 2 else if n = 0 ∨ n = 1 ∨ n = 3 ∨ n = 4 ∨ n = 5 ∨ n = 6 ∨ n = 7 ∨ n = 12 ∨ n = 14 then 1 else 0
def leastA (n : Int) : Int := if n = 16 then 16 else 0
def mostA (n : Int) : Int := if n = 0 then 250 else if n = 1 ∨ n = 2 then 15 else if n = 10 ∨ n = 11 then 199 else if n = 13 then 15 else if n = 14 then 7 else if n = 16 then 255 else 0
def mostB (n : Int) : Int := if n = 0 then 250 else if n = 13 then 7 else 0
def imay (x : Instr) : Bool := decide (0 ≤ x.op) && decide (x.op < 17) && decide (leastA x.op ≤ x.a) && decide (x.a ≤ mostA x.op) && decide (0 ≤ x.b) && decide (x.b ≤ mostB x.op)
def headOk (f : Fu) : Bool := decide (0 ≤ f.arity) && decide (f.arity ≤ 16) && decide (0 ≤ f.locals) && decide (f.locals ≤ 16) && decide (0 ≤ f.slots) && decide (f.slots ≤ 8)
def fmay (f : Fu) : Bool := headOk f && decide (1 ≤ f.c.length) && decide (f.c.length ≤ 200) && f.c.all imay
def mayP (p : List Fu) : Bool := p.all fmay && decide (1 ≤ p.length) && decide (p.length ≤ 16)
theorem off6_le (n : Int) : 0 ≤ off6 n ∧ off6 n ≤ 2 := by unfold off6; split <;> (try split) <;> omega
theorem on6_le (n : Int) : 0 ≤ on6 n ∧ on6 n ≤ 2 := by unfold on6; split <;> (try split) <;> omega
/-- what is wrong with an instruction's fields, in a program of np functions -/
def fieldE (np : Nat) (f : Fu) (x : Instr) : Int :=
  if x.op = 1 ∨ x.op = 2 then (if f.locals ≤ x.a then 82 else 0)
  else if x.op = 14 then (if f.slots ≤ x.a then 82 else 0)
  else if x.op = 13 then (if f.slots ≤ x.b then 82 else if (np : Int) ≤ x.a then 82 else 0)
  else if x.op = 10 ∨ x.op = 11 then (if (f.c.length : Int) ≤ x.a then 83 else 0)
  else 0
def firstE (np : Nat) (f : Fu) : Nat → List Instr → Option (Nat × Int)
  | _, [] => none
  | i, x :: xs => if fieldE np f x = 0 then firstE np f (i + 1) xs else some (i, fieldE np f x)
def offP (p : List Fu) (x : Instr) : Int := if x.op = 13 then ((p[x.a.toNat]?).map (·.arity)).getD 0 else off6 x.op
def nextP (x : Instr) (at_ : Nat) : List Nat := if x.op = 10 then [x.a.toNat] else if x.op = 15 ∨ x.op = 16 then [] else if x.op = 11 then [at_ + 1, x.a.toNat] else [at_ + 1]
/-- what an instruction takes off, lays on, and what follows it -/
structure Sh where
  off : Int
  on : Int
  nx : List Nat
def shapes (p : List Fu) (c : List Instr) : List Sh := c.mapIdx fun i x => ⟨offP p x, on6 x.op, nextP x i⟩
def leastF (ds : List Int) (dn : List Bool) : Nat → Nat → Option Nat
  | 0, _ => none
  | k + 1, i => if ds.getD i (-1) ≠ -1 ∧ dn.getD i true = false then some i else leastF ds dn k (i + 1)
def least (ds : List Int) (dn : List Bool) : Option Nat := leastF ds dn ds.length 0
def lay (n : Nat) (b : Int) : List Nat → List Int → Int ⊕ List Int
  | [], ds => .inr ds
  | t :: ts, ds => if n ≤ t then .inl 81 else if ds.getD t (-1) = -1 then lay n b ts (ds.set t b) else if ds.getD t (-1) ≠ b then .inl 84 else lay n b ts ds
def reachN (sh : List Sh) : Nat → List Int → List Bool → (Int × Int) ⊕ List Int
  | 0, _, _ => .inl (0, 99)
  | k + 1, ds, dn => match least ds dn with
    | none => .inr ds
    | some at_ => match sh[at_]? with
      | none => .inl (0, 99)
      | some s =>
        if ds.getD at_ (-1) < s.off ∨ 16 < ds.getD at_ (-1) - s.off + s.on then .inl (at_, 84)
        else match lay sh.length (ds.getD at_ (-1) - s.off + s.on) s.nx ds with
          | .inl e => .inl (at_, e)
          | .inr ds' => reachN sh k ds' (dn.set at_ true)
def reach (sh : List Sh) : (Int × Int) ⊕ List Int := reachN sh (sh.length + 1) ((List.replicate sh.length (-1 : Int)).set 0 0) (List.replicate sh.length false)
/-- what is wrong with a function, and where -/
def funcE (p : List Fu) (f : Fu) : Int × Int :=
  if f.locals < f.arity then (0, 80) else
  match firstE p.length f 0 f.c with
  | some (i, e) => (i, e)
  | none => match reach (shapes p f.c) with
    | .inl r => r
    | .inr _ => (0, 0)
def goE (p : List Fu) : Nat → List Fu → Int × Int × Int
  | _, [] => (0, 0, 0)
  | i, f :: fs => if (funcE p f).2 = 0 then goE p (i + 1) fs else (i, (funcE p f).1, (funcE p f).2)
def check (p : List Fu) : Int × Int × Int := if mayP p then goE p 0 p else (0, 0, 1)
def good (p : List Fu) : Bool := (check p).2.2 == 0
def depthsOf (p : List Fu) (f : Fu) : List Int := match reach (shapes p f.c) with | .inr d => d | .inl _ => []
def depths (p : List Fu) (fn : Int) : List Int :=
  if good p = true ∧ 0 ≤ fn then match p[fn.toNat]? with | some f => depthsOf p f | none => [] else []

/-! the walk through places -/
theorem leastF_some {ds : List Int} {dn : List Bool} : ∀ {k i j : Nat}, leastF ds dn k i = some j → i ≤ j ∧ j < i + k ∧ ds.getD j (-1) ≠ -1 ∧ dn.getD j true = false
  | 0, i, j, h => by simp [leastF] at h
  | k + 1, i, j, h => by
    unfold leastF at h
    split at h
    · rename_i hc; cases h; exact ⟨Nat.le_refl _, by omega, hc⟩
    · obtain ⟨a, b, c⟩ := leastF_some h; exact ⟨by omega, by omega, c⟩
theorem leastF_none {ds : List Int} {dn : List Bool} : ∀ {k i : Nat}, leastF ds dn k i = none → ∀ j, i ≤ j → j < i + k → ds.getD j (-1) = -1 ∨ dn.getD j true = true
  | 0, i, h, j, h1, h2 => by omega
  | k + 1, i, h, j, h1, h2 => by
    unfold leastF at h
    split at h
    · cases h
    · rename_i hc
      by_cases hj : j = i
      · subst hj
        by_cases hd : ds.getD j (-1) = -1
        · exact .inl hd
        · right
          cases hb : dn.getD j true with
          | true => rfl
          | false => exact absurd ⟨hd, hb⟩ hc
      · exact leastF_none h j (by omega) (by omega)
theorem lay_len {n : Nat} {b : Int} : ∀ {ts : List Nat} {ds r : List Int}, lay n b ts ds = .inr r → r.length = ds.length
  | [], ds, r, h => by simp only [lay, Sum.inr.injEq] at h; rw [h]
  | t :: ts, ds, r, h => by
    unfold lay at h
    split at h
    · cases h
    · split at h
      · have := lay_len h; simpa using this
      · split at h
        · cases h
        · exact lay_len h
theorem getD_set {α : Type} (l : List α) (i j : Nat) (x d : α) : (l.set i x).getD j d = if j = i ∧ i < l.length then x else l.getD j d := by
  simp only [List.getD_eq_getElem?_getD, List.getElem?_set]
  split
  · rename_i h; subst h
    by_cases hl : i < l.length
    · simp [hl]
    · simp [hl]
  · rename_i h
    rw [if_neg (fun hh => h hh.1.symm)]
/-- what lay does: it changes no place that is reached, and reaches those that follow -/
theorem lay_ok {n : Nat} {b : Int} (hb : b ≠ -1) : ∀ {ts : List Nat} {ds r : List Int}, ds.length = n → lay n b ts ds = .inr r →
    (∀ t ∈ ts, t < n ∧ r.getD t (-1) = b) ∧ (∀ j, ds.getD j (-1) ≠ -1 → r.getD j (-1) = ds.getD j (-1)) ∧ (∀ j, r.getD j (-1) ≠ -1 → ds.getD j (-1) ≠ -1 ∨ (j ∈ ts ∧ r.getD j (-1) = b))
  | [], ds, r, hl, h => by
    simp only [lay, Sum.inr.injEq] at h; subst h
    exact ⟨by simp, fun _ _ => rfl, fun j h => .inl h⟩
  | t :: ts, ds, r, hl, h => by
    unfold lay at h
    split at h
    · cases h
    · rename_i ht
      split at h
      · rename_i hd
        obtain ⟨h1, h2, h3⟩ := lay_ok hb (by simpa using hl) h
        have ht' : (ds.set t b).getD t (-1) = b := by rw [getD_set, if_pos ⟨rfl, by omega⟩]
        refine ⟨fun s hs => ?_, fun j hj => ?_, fun j hj => ?_⟩
        · rcases List.mem_cons.1 hs with rfl | hs
          · exact ⟨by omega, by rw [h2 _ (by rw [ht']; exact hb), ht']⟩
          · exact h1 s hs
        · have hjt : j ≠ t := by rintro rfl; exact hj hd
          have e : (ds.set t b).getD j (-1) = ds.getD j (-1) := by rw [getD_set, if_neg (fun hh => hjt hh.1)]
          rw [h2 j (by rw [e]; exact hj), e]
        · rcases h3 j hj with h | ⟨h, h'⟩
          · by_cases hjt : j = t
            · subst hjt; right; exact ⟨by simp, by rw [h2 _ h, ht']⟩
            · left; rw [getD_set, if_neg (fun hh => hjt hh.1)] at h; exact h
          · exact .inr ⟨by simp [h], h'⟩
      · rename_i hd
        split at h
        · cases h
        · rename_i hb'
          have hb' : ds.getD t (-1) = b := by simpa using hb'
          obtain ⟨h1, h2, h3⟩ := lay_ok hb hl h
          refine ⟨fun s hs => ?_, h2, fun j hj => ?_⟩
          · rcases List.mem_cons.1 hs with rfl | hs
            · exact ⟨by omega, by rw [h2 _ hd, hb']⟩
            · exact h1 s hs
          · rcases h3 j hj with h | ⟨h, h'⟩
            · exact .inl h
            · exact .inr ⟨by simp [h], h'⟩
/-- what the depths of a function are -/
structure Fin (sh : List Sh) (d : List Int) : Prop where
  len : d.length = sh.length
  d0 : d.getD 0 (-1) = 0
  rng : ∀ i, d.getD i (-1) = -1 ∨ (0 ≤ d.getD i (-1) ∧ d.getD i (-1) ≤ 16)
  safe : ∀ i s, sh[i]? = some s → d.getD i (-1) ≠ -1 → s.off ≤ d.getD i (-1) ∧ d.getD i (-1) - s.off + s.on ≤ 16 ∧ ∀ t ∈ s.nx, t < sh.length ∧ d.getD t (-1) = d.getD i (-1) - s.off + s.on
  back : ∀ t, t ≠ 0 → d.getD t (-1) ≠ -1 → ∃ i s, sh[i]? = some s ∧ d.getD i (-1) ≠ -1 ∧ t ∈ s.nx
structure Inv (sh : List Sh) (d : List Int) (dn : List Bool) : Prop where
  len : d.length = sh.length
  dlen : dn.length = sh.length
  d0 : d.getD 0 (-1) = 0
  rng : ∀ i, d.getD i (-1) = -1 ∨ (0 ≤ d.getD i (-1) ∧ d.getD i (-1) ≤ 16)
  safe : ∀ i s, sh[i]? = some s → dn.getD i true = true → d.getD i (-1) ≠ -1 ∧ s.off ≤ d.getD i (-1) ∧ d.getD i (-1) - s.off + s.on ≤ 16 ∧ ∀ t ∈ s.nx, t < sh.length ∧ d.getD t (-1) = d.getD i (-1) - s.off + s.on
  back : ∀ t, t ≠ 0 → d.getD t (-1) ≠ -1 → ∃ i s, sh[i]? = some s ∧ d.getD i (-1) ≠ -1 ∧ t ∈ s.nx
theorem Inv.init {sh : List Sh} (h : 0 < sh.length) : Inv sh ((List.replicate sh.length (-1 : Int)).set 0 0) (List.replicate sh.length false) := by
  have hr : ∀ i, (List.replicate sh.length (-1 : Int)).getD i (-1) = -1 := by
    intro i; simp only [List.getD_eq_getElem?_getD, List.getElem?_replicate]; split <;> rfl
  refine ⟨by simp, by simp, by rw [getD_set, if_pos ⟨rfl, by simpa using h⟩], fun i => ?_, fun i s hs hd => ?_, fun t ht hd => ?_⟩
  · rw [getD_set]; split
    · right; omega
    · left; exact hr i
  · have : i < sh.length := (List.getElem?_eq_some_iff.1 hs).1
    simp [List.getD_eq_getElem?_getD, List.getElem?_replicate, this] at hd
  · rw [getD_set, if_neg (fun hh => ht hh.1)] at hd
    exact absurd (hr t) hd
theorem Inv.step {sh : List Sh} (hon : ∀ s ∈ sh, 0 ≤ s.on) {d r : List Int} {dn : List Bool} (I : Inv sh d dn) {at_ : Nat} {s : Sh} (hl : least d dn = some at_) (hs : sh[at_]? = some s)
    (hok : ¬ (d.getD at_ (-1) < s.off ∨ 16 < d.getD at_ (-1) - s.off + s.on)) (hy : lay sh.length (d.getD at_ (-1) - s.off + s.on) s.nx d = .inr r) : Inv sh r (dn.set at_ true) := by
  obtain ⟨_, h2, h3, h4⟩ := leastF_some hl
  have hs0 := hon s (List.mem_of_getElem? hs)
  have hb : d.getD at_ (-1) - s.off + s.on ≠ -1 := by omega
  obtain ⟨k1, k2, k3⟩ := lay_ok hb I.len hy
  have hat : at_ < sh.length := (List.getElem?_eq_some_iff.1 hs).1
  refine ⟨(lay_len hy).trans I.len, by simpa using I.dlen, by rw [k2 0 (by rw [I.d0]; omega), I.d0], fun i => ?_, fun i s' hs' hd => ?_, fun t ht hd => ?_⟩
  · by_cases hr : r.getD i (-1) = -1
    · exact .inl hr
    · rcases k3 i hr with h | ⟨_, h⟩
      · rw [k2 i h]; exact I.rng i
      · right; rw [h]; omega
  · by_cases hi : i = at_
    · subst hi
      rw [hs] at hs'; cases hs'
      rw [k2 i h3]
      refine ⟨h3, by omega, by omega, fun t ht => k1 t ht⟩
    · rw [getD_set, if_neg (fun hh => hi hh.1)] at hd
      obtain ⟨g1, g2, g3, g4⟩ := I.safe i s' hs' hd
      rw [k2 i g1]
      refine ⟨g1, g2, g3, fun t ht => ?_⟩
      obtain ⟨g5, g6⟩ := g4 t ht
      have := I.rng i
      have hso := hon s' (List.mem_of_getElem? hs')
      exact ⟨g5, by rw [k2 t (by omega), g6]⟩
  · rcases k3 t hd with h | ⟨h, _⟩
    · obtain ⟨i, s', g1, g2, g3⟩ := I.back t ht h
      exact ⟨i, s', g1, by rw [k2 i g2]; exact g2, g3⟩
    · exact ⟨at_, s, hs, by rw [k2 at_ h3]; exact h3, h⟩
theorem reachN_fin {sh : List Sh} (hon : ∀ s ∈ sh, 0 ≤ s.on) : ∀ {k : Nat} {d r : List Int} {dn : List Bool}, Inv sh d dn → reachN sh k d dn = .inr r → Fin sh r
  | 0, d, r, dn, I, h => by simp [reachN] at h
  | k + 1, d, r, dn, I, h => by
    unfold reachN at h
    split at h
    · rename_i hl
      simp only [Sum.inr.injEq] at h; subst h
      refine ⟨I.len, I.d0, I.rng, fun i s hs hd => ?_, I.back⟩
      have hi : i < sh.length := (List.getElem?_eq_some_iff.1 hs).1
      rcases leastF_none hl i (Nat.zero_le _) (by rw [I.len]; omega) with h | h
      · exact absurd h hd
      · exact (I.safe i s hs h).2
    · rename_i at_ hl
      split at h
      · cases h
      · rename_i s hs
        split at h
        · cases h
        · rename_i hok
          split at h
          · cases h
          · rename_i ds' hy
            exact reachN_fin hon (I.step hon hl hs hok hy) h
theorem reach_fin {sh : List Sh} (h0 : 0 < sh.length) (hon : ∀ s ∈ sh, 0 ≤ s.on) {r : List Int} (h : reach sh = .inr r) : Fin sh r := reachN_fin hon (Inv.init h0) h
theorem shapes_get (p : List Fu) (c : List Instr) (i : Nat) : (shapes p c)[i]? = (c[i]?).map fun x => ⟨offP p x, on6 x.op, nextP x i⟩ := by simp [shapes, List.getElem?_mapIdx]
theorem shapes_len (p : List Fu) (c : List Instr) : (shapes p c).length = c.length := by simp [shapes]
theorem shapes_on (p : List Fu) (c : List Instr) : ∀ s ∈ shapes p c, 0 ≤ s.on := by
  intro s hs
  obtain ⟨i, hi⟩ := List.mem_iff_getElem?.1 hs
  rw [shapes_get] at hi
  simp only [Option.map_eq_some_iff] at hi
  obtain ⟨x, _, rfl⟩ := hi
  exact (on6_le _).1
theorem firstE_none {np : Nat} {f : Fu} : ∀ {c : List Instr} {i : Nat}, firstE np f i c = none ↔ ∀ x ∈ c, fieldE np f x = 0
  | [], i => by simp [firstE]
  | x :: c, i => by
    unfold firstE
    split
    · rename_i h; rw [firstE_none]; simp [h]
    · rename_i h; simp [h]
theorem firstE_some {np : Nat} {f : Fu} : ∀ {c : List Instr} {i j : Nat} {e : Int}, firstE np f i c = some (j, e) → e ≠ 0
  | [], i, j, e, h => by simp [firstE] at h
  | x :: c, i, j, e, h => by
    unfold firstE at h
    split at h
    · exact firstE_some h
    · rename_i hn; cases h; exact hn
theorem lay_err {n : Nat} {b : Int} : ∀ {ts : List Nat} {ds : List Int} {e : Int}, lay n b ts ds = .inl e → e ≠ 0
  | [], ds, e, h => by simp [lay] at h
  | t :: ts, ds, e, h => by
    unfold lay at h
    split at h
    · cases h; decide
    · split at h
      · exact lay_err h
      · split at h
        · cases h; decide
        · exact lay_err h
theorem reachN_err {sh : List Sh} : ∀ {k : Nat} {d : List Int} {dn : List Bool} {a e : Int}, reachN sh k d dn = .inl (a, e) → e ≠ 0
  | 0, d, dn, a, e, h => by simp only [reachN, Sum.inl.injEq, Prod.mk.injEq] at h; omega
  | k + 1, d, dn, a, e, h => by
    unfold reachN at h
    split at h
    · cases h
    · split at h
      · simp only [Sum.inl.injEq, Prod.mk.injEq] at h; omega
      · split at h
        · simp only [Sum.inl.injEq, Prod.mk.injEq] at h; omega
        · split at h
          · rename_i e' hy; simp only [Sum.inl.injEq, Prod.mk.injEq] at h; rw [← h.2]; exact lay_err hy
          · exact reachN_err h
theorem funcE_zero {p : List Fu} {f : Fu} : (funcE p f).2 = 0 ↔ f.arity ≤ f.locals ∧ (∀ x ∈ f.c, fieldE p.length f x = 0) ∧ ∃ d, reach (shapes p f.c) = .inr d := by
  unfold funcE
  by_cases h0 : f.locals < f.arity
  · rw [if_pos h0]; constructor
    · intro h; simp at h
    · rintro ⟨h, _⟩; omega
  · rw [if_neg h0]
    cases h1 : firstE p.length f 0 f.c with
    | some r =>
      obtain ⟨i, e⟩ := r
      constructor
      · intro h; exact absurd h (firstE_some h1)
      · rintro ⟨_, h, _⟩
        rw [firstE_none.2 h] at h1; cases h1
    | none =>
      cases h2 : reach (shapes p f.c) with
      | inl r => obtain ⟨a, e⟩ := r; constructor
                 · intro h; exact absurd h (reachN_err h2)
                 · rintro ⟨_, _, d, h⟩; cases h
      | inr d => exact ⟨fun _ => ⟨by omega, firstE_none.1 h1, d, rfl⟩, fun _ => rfl⟩
theorem goE_zero {p : List Fu} : ∀ {fs : List Fu} {i : Nat}, (goE p i fs).2.2 = 0 ↔ ∀ f ∈ fs, (funcE p f).2 = 0
  | [], i => by simp [goE]
  | f :: fs, i => by
    unfold goE
    split
    · rename_i h; rw [goE_zero]; simp [h]
    · rename_i h; simp [h]
/-- nothing is wrong with a program -/
theorem good_iff {p : List Fu} : good p = true ↔ mayP p = true ∧ ∀ f ∈ p, f.arity ≤ f.locals ∧ (∀ x ∈ f.c, fieldE p.length f x = 0) ∧ ∃ d, reach (shapes p f.c) = .inr d := by
  unfold good check
  simp only [beq_iff_eq]
  by_cases h : mayP p = true
  · rw [if_pos h, goE_zero]
    simp only [h, true_and]
    exact ⟨fun k f hf => funcE_zero.1 (k f hf), fun k f hf => funcE_zero.2 (k f hf)⟩
  · rw [if_neg h]; simp [h]
theorem good_check {p : List Fu} : good p = true ↔ check p = (0, 0, 0) := by
  constructor
  · intro h
    obtain ⟨h1, h2⟩ := good_iff.1 h
    unfold check; rw [if_pos h1]
    have : ∀ (fs : List Fu) i, (∀ f ∈ fs, (funcE p f).2 = 0) → goE p i fs = (0, 0, 0) := by
      intro fs
      induction fs with
      | nil => intro i _; rfl
      | cons f fs ih => intro i h; unfold goE; rw [if_pos (h f (by simp))]; exact ih _ fun f hf => h f (by simp [hf])
    exact this p 0 fun f hf => funcE_zero.2 (h2 f hf)
  · intro h; unfold good; rw [h]; rfl
theorem mayP_f {p : List Fu} (h : mayP p = true) {f : Fu} (hf : f ∈ p) : fmay f = true := by
  unfold mayP at h; simp only [Bool.and_eq_true, List.all_eq_true] at h; exact h.1.1 f hf
theorem fmay_len {f : Fu} (h : fmay f = true) : 1 ≤ f.c.length ∧ f.c.length ≤ 200 := by
  unfold fmay at h; simp only [Bool.and_eq_true, decide_eq_true_eq] at h; exact ⟨h.1.1.2, h.1.2⟩
theorem fmay_head {f : Fu} (h : fmay f = true) : 0 ≤ f.arity ∧ f.arity ≤ 16 ∧ 0 ≤ f.locals ∧ f.locals ≤ 16 ∧ 0 ≤ f.slots ∧ f.slots ≤ 8 := by
  unfold fmay headOk at h; simp only [Bool.and_eq_true, decide_eq_true_eq] at h; omega
theorem fmay_all {f : Fu} (h : fmay f = true) : ∀ x ∈ f.c, imay x = true := by
  unfold fmay at h; simp only [Bool.and_eq_true, List.all_eq_true] at h; exact h.2
theorem imay_iff {x : Instr} : imay x = true ↔ 0 ≤ x.op ∧ x.op < 17 ∧ leastA x.op ≤ x.a ∧ x.a ≤ mostA x.op ∧ 0 ≤ x.b ∧ x.b ≤ mostB x.op := by
  unfold imay; simp only [Bool.and_eq_true, decide_eq_true_eq]; constructor <;> (intro h; omega)
theorem imay_a {x : Instr} (h : imay x = true) : 0 ≤ x.a := by
  obtain ⟨_, _, h, _⟩ := imay_iff.1 h
  unfold leastA at h; split at h <;> omega
/-- of a good program: the depths of a function -/
theorem good_fin {p : List Fu} (hg : good p = true) {f : Fu} (hf : f ∈ p) : reach (shapes p f.c) = .inr (depthsOf p f) ∧ Fin (shapes p f.c) (depthsOf p f) := by
  obtain ⟨h1, h2⟩ := good_iff.1 hg
  obtain ⟨_, _, d, hd⟩ := h2 f hf
  have hl := fmay_len (mayP_f h1 hf)
  have e : depthsOf p f = d := by unfold depthsOf; rw [hd]
  rw [e]
  exact ⟨hd, reach_fin (by rw [shapes_len]; omega) (shapes_on _ _) hd⟩
theorem depths_good {p : List Fu} (hg : good p = true) {i : Nat} {f : Fu} (hf : p[i]? = some f) : depths p i = depthsOf p f := by
  unfold depths; rw [if_pos ⟨hg, by omega⟩]; simp [hf]
theorem depths_bad {p : List Fu} (hg : good p = false) (fn : Int) : depths p fn = [] := by unfold depths; rw [if_neg (by simp [hg])]
theorem depths_out {p : List Fu} {fn : Int} (h : fn < 0 ∨ (p.length : Int) ≤ fn) : depths p fn = [] := by
  unfold depths
  split
  · rename_i hc
    rw [List.getElem?_eq_none (by omega)]
  · rfl
end Go.Proofs.YtghidjgejmmcmaaW.Md
