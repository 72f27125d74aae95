/- What follows of programs with which nothing is wrong. No conditions. -/
import Derived.Test.YtghidjgejmmcmaaVmC1
set_option linter.unusedVariables false
set_option linter.unusedSimpArgs false
namespace Go.Proofs.YtghidjgejmmcmaaW.Md
/-! instructions that stand for each other -/
structure ILike (x y : Instr) : Prop where
  may : imay x = imay y
  fld : ∀ np f, fieldE np f x = fieldE np f y
  off : ∀ p, offP p x = offP p y
  on : on6 x.op = on6 y.op
  nx : ∀ i, nextP x i = nextP y i
theorem ILike.refl (x : Instr) : ILike x x := ⟨rfl, fun _ _ => rfl, fun _ => rfl, rfl, fun _ => rfl⟩
structure FLike (f g : Fu) : Prop where
  ar : f.arity = g.arity
  lo : f.locals = g.locals
  sl : f.slots = g.slots
  len : f.c.length = g.c.length
  at_ : ∀ (i : Nat) x y, f.c[i]? = some x → g.c[i]? = some y → ILike x y
theorem FLike.refl (f : Fu) : FLike f f := ⟨rfl, rfl, rfl, rfl, fun i x y h k => by rw [h] at k; cases k; exact .refl x⟩
theorem fieldE_f {np : Nat} {f g : Fu} (h : FLike f g) (x : Instr) : fieldE np f x = fieldE np g x := by
  unfold fieldE; rw [h.lo, h.sl, h.len]
theorem all_like {f g : Fu} (h : FLike f g) : f.c.all imay = g.c.all imay := by
  have : ∀ (a b : List Instr), a.length = b.length → (∀ (i : Nat) x y, a[i]? = some x → b[i]? = some y → ILike x y) → a.all imay = b.all imay := by
    intro a
    induction a with
    | nil => intro b hl _; cases b with
      | nil => rfl
      | cons => simp at hl
    | cons x a ih =>
      intro b hl h
      cases b with
      | nil => simp at hl
      | cons y b =>
        simp only [List.all_cons]
        rw [(h 0 x y rfl rfl).may, ih b (by simpa using hl) fun i u v hu hv => h (i + 1) u v (by simpa using hu) (by simpa using hv)]
  exact this _ _ h.len h.at_
theorem fmay_like {f g : Fu} (h : FLike f g) : fmay f = fmay g := by
  unfold fmay headOk; rw [h.ar, h.lo, h.sl, h.len, all_like h]
theorem firstE_like {np : Nat} {f g : Fu} (h : FLike f g) : ∀ (a b : List Instr) (k : Nat), a.length = b.length → (∀ (i : Nat) x y, a[i]? = some x → b[i]? = some y → ILike x y) → firstE np f k a = firstE np g k b
  | [], [], _, _, _ => rfl
  | [], _ :: _, _, hl, _ => by simp at hl
  | _ :: _, [], _, hl, _ => by simp at hl
  | x :: a, y :: b, k, hl, ha => by
    have e : fieldE np f x = fieldE np g y := by rw [fieldE_f h x]; exact (ha 0 x y rfl rfl).fld np g
    unfold firstE
    rw [e, firstE_like h a b (k + 1) (by simpa using hl) fun i u v hu hv => ha (i + 1) u v (by simpa using hu) (by simpa using hv)]
theorem shapes_like {p : List Fu} {f g : Fu} (h : FLike f g) : shapes p f.c = shapes p g.c := by
  apply List.ext_getElem?
  intro i
  rw [shapes_get, shapes_get]
  cases hx : f.c[i]? with
  | none =>
    have : g.c[i]? = none := by rw [List.getElem?_eq_none_iff] at hx ⊢; rw [← h.len]; exact hx
    rw [this]
  | some x =>
    have hi : i < g.c.length := by rw [← h.len]; exact (List.getElem?_eq_some_iff.1 hx).1
    have hy : g.c[i]? = some g.c[i] := List.getElem?_eq_getElem hi
    have hh := h.at_ i x _ hx hy
    rw [hy]
    simp only [Option.map_some, hh.off, hh.on, hh.nx]
/-- programs of the same arities tell the same of a function -/
theorem offP_ar {p q : List Fu} (h : p.map (·.arity) = q.map (·.arity)) (x : Instr) : offP p x = offP q x := by
  unfold offP
  have : (p[x.a.toNat]?).map (·.arity) = (q[x.a.toNat]?).map (·.arity) := by rw [← List.getElem?_map, ← List.getElem?_map, h]
  rw [this]
theorem shapes_ar {p q : List Fu} (h : p.map (·.arity) = q.map (·.arity)) (c : List Instr) : shapes p c = shapes q c := by
  unfold shapes; simp only [offP_ar h]
theorem funcE_like {p q : List Fu} (h : p.map (·.arity) = q.map (·.arity)) {f g : Fu} (hf : FLike f g) : funcE p f = funcE q g := by
  have hl : p.length = q.length := by have := congrArg List.length h; simpa using this
  unfold funcE
  rw [hf.ar, hf.lo, hl, firstE_like hf f.c g.c 0 hf.len hf.at_, shapes_like hf, shapes_ar h]
theorem check_like {p q : List Fu} (hl : p.length = q.length) (h : ∀ (i : Nat) f g, p[i]? = some f → q[i]? = some g → FLike f g) : check p = check q ∧ p.map (·.arity) = q.map (·.arity) := by
  have har : p.map (·.arity) = q.map (·.arity) := by
    apply List.ext_getElem?
    intro i
    simp only [List.getElem?_map]
    cases hp : p[i]? with
    | none => rw [List.getElem?_eq_none (by rw [← hl]; exact List.getElem?_eq_none_iff.1 hp)]
    | some f =>
      have hi : i < q.length := by rw [← hl]; exact (List.getElem?_eq_some_iff.1 hp).1
      rw [List.getElem?_eq_getElem hi, Option.map_some, Option.map_some, (h i f _ hp (List.getElem?_eq_getElem hi)).ar]
  refine ⟨?_, har⟩
  have hall : ∀ (a b : List Fu), a.length = b.length → (∀ (i : Nat) f g, a[i]? = some f → b[i]? = some g → FLike f g) → a.all fmay = b.all fmay := by
    intro a
    induction a with
    | nil => intro b hl _; cases b with
      | nil => rfl
      | cons => simp at hl
    | cons f a ih =>
      intro b hl h
      cases b with
      | nil => simp at hl
      | cons g b =>
        simp only [List.all_cons]
        rw [fmay_like (h 0 f g rfl rfl), ih b (by simpa using hl) fun i u v hu hv => h (i + 1) u v (by simpa using hu) (by simpa using hv)]
  have hgo : ∀ (a b : List Fu) (k : Nat), a.length = b.length → (∀ (i : Nat) f g, a[i]? = some f → b[i]? = some g → FLike f g) → goE p k a = goE q k b := by
    intro a
    induction a with
    | nil => intro b k hl _; cases b with
      | nil => rfl
      | cons => simp at hl
    | cons f a ih =>
      intro b k hl h
      cases b with
      | nil => simp at hl
      | cons g b =>
        unfold goE
        rw [funcE_like har (h 0 f g rfl rfl), ih b (k + 1) (by simpa using hl) fun i u v hu hv => h (i + 1) u v (by simpa using hu) (by simpa using hv)]
  unfold check mayP
  rw [hall p q hl h, hl, hgo p q 0 hl h]
theorem depths_like {p q : List Fu} (hl : p.length = q.length) (h : ∀ (i : Nat) f g, p[i]? = some f → q[i]? = some g → FLike f g) (fn : Int) : depths p fn = depths q fn := by
  obtain ⟨h1, h2⟩ := check_like hl h
  unfold depths good
  rw [h1]
  by_cases hc : ((check q).2.2 == 0) = true ∧ 0 ≤ fn
  · rw [if_pos hc, if_pos hc]
    cases hp : p[fn.toNat]? with
    | none => rw [List.getElem?_eq_none (by rw [← hl]; exact List.getElem?_eq_none_iff.1 hp)]
    | some f =>
      have hi : fn.toNat < q.length := by rw [← hl]; exact (List.getElem?_eq_some_iff.1 hp).1
      rw [List.getElem?_eq_getElem hi]
      have hf := h _ f _ hp (List.getElem?_eq_getElem hi)
      simp only [depthsOf]
      rw [shapes_like hf, shapes_ar h2]
  · rw [if_neg hc, if_neg hc]
/-! functions behind -/
theorem fieldE_more {np nq : Nat} (h : np ≤ nq) {f : Fu} {x : Instr} (hx : fieldE np f x = 0) : fieldE nq f x = 0 := by
  unfold fieldE at hx ⊢
  (repeat' split at hx) <;> (repeat' split) <;> omega
theorem fieldE_spawn {np : Nat} {f : Fu} {x : Instr} (hx : fieldE np f x = 0) (h : x.op = 13) : x.b < f.slots ∧ x.a < np := by
  unfold fieldE at hx
  rw [if_neg (by omega), if_neg (by omega), if_pos h] at hx
  split at hx
  · omega
  · split at hx <;> omega
theorem shapes_more {p q : List Fu} {c : List Instr} (h : ∀ x ∈ c, x.op = 13 → 0 ≤ x.a ∧ x.a < p.length) : shapes (p ++ q) c = shapes p c := by
  apply List.ext_getElem?
  intro i
  rw [shapes_get, shapes_get]
  cases hx : c[i]? with
  | none => rfl
  | some x =>
    simp only [Option.map_some, Option.some.injEq, Sh.mk.injEq, and_true]
    unfold offP
    split
    · rename_i h13
      obtain ⟨h1, h2⟩ := h x (List.mem_of_getElem? hx) h13
      rw [List.getElem?_append_left (by omega)]
    · rfl
theorem shapes_none {p q : List Fu} {c : List Instr} (h : ∀ x ∈ c, x.op ≠ 13) : shapes p c = shapes q c := by
  apply List.ext_getElem?
  intro i
  rw [shapes_get, shapes_get]
  cases hx : c[i]? with
  | none => rfl
  | some x => simp [offP, h x (List.mem_of_getElem? hx)]
theorem more_good {p q : List Fu} (hp : good p = true) (hq : good q = true) (hl : p.length + q.length ≤ 16) (hs : ∀ f ∈ q, ∀ x ∈ f.c, x.op ≠ 13) :
    good (p ++ q) = true ∧ (∀ (i : Nat) f, p[i]? = some f → depthsOf (p ++ q) f = depthsOf p f) ∧ (∀ (i : Nat) f, q[i]? = some f → depthsOf (p ++ q) f = depthsOf q f) := by
  obtain ⟨p1, p2⟩ := good_iff.1 hp
  obtain ⟨q1, q2⟩ := good_iff.1 hq
  have hpl : 1 ≤ p.length := by unfold mayP at p1; simp only [Bool.and_eq_true, decide_eq_true_eq] at p1; omega
  have sp : ∀ f ∈ p, shapes (p ++ q) f.c = shapes p f.c := fun f hf => shapes_more fun x hx h13 =>
    ⟨imay_a (fmay_all (mayP_f p1 hf) x hx), (fieldE_spawn ((p2 f hf).2.1 x hx) h13).2⟩
  have sq : ∀ f ∈ q, shapes (p ++ q) f.c = shapes q f.c := fun f hf => shapes_none (hs f hf)
  refine ⟨good_iff.2 ⟨?_, fun f hf => ?_⟩, fun i f hf => ?_, fun i f hf => ?_⟩
  · unfold mayP at p1 q1 ⊢
    simp only [Bool.and_eq_true, decide_eq_true_eq, List.all_append, List.length_append] at p1 q1 ⊢
    exact ⟨⟨⟨p1.1.1, q1.1.1⟩, by omega⟩, by omega⟩
  · rcases List.mem_append.1 hf with hf | hf
    · obtain ⟨a, b, c⟩ := p2 f hf
      exact ⟨a, fun x hx => fieldE_more (by simp) (b x hx), by rw [sp f hf]; exact c⟩
    · obtain ⟨a, b, c⟩ := q2 f hf
      exact ⟨a, fun x hx => fieldE_more (by simp) (b x hx), by rw [sq f hf]; exact c⟩
  · unfold depthsOf; rw [sp f (List.mem_of_getElem? hf)]
  · unfold depthsOf; rw [sq f (List.mem_of_getElem? hf)]
/-! an instruction behind -/
theorem leastF_more {ds : List Int} {dn : List Bool} (hl : ds.length = dn.length) : ∀ {k i : Nat}, i + k = ds.length → leastF (ds ++ [-1]) (dn ++ [false]) (k + 1) i = leastF ds dn k i
  | 0, i, h => by
    unfold leastF
    rw [if_neg]
    · rfl
    · rintro ⟨h1, _⟩
      simp only [List.getD_eq_getElem?_getD] at h1
      rw [List.getElem?_append_right (by omega)] at h1
      have : i - ds.length = 0 := by omega
      simp [this] at h1
  | k + 1, i, h => by
    have h1 : (ds ++ [-1]).getD i (-1) = ds.getD i (-1) := by simp only [List.getD_eq_getElem?_getD]; rw [List.getElem?_append_left (by omega)]
    have h2 : (dn ++ [false]).getD i true = dn.getD i true := by simp only [List.getD_eq_getElem?_getD]; rw [List.getElem?_append_left (by omega)]
    have e := leastF_more hl (k := k) (i := i + 1) (by omega)
    rw [show leastF (ds ++ [-1]) (dn ++ [false]) (k + 1 + 1) i = if (ds ++ [-1]).getD i (-1) ≠ -1 ∧ (dn ++ [false]).getD i true = false then some i else leastF (ds ++ [-1]) (dn ++ [false]) (k + 1) (i + 1) from rfl, h1, h2, e]
    rfl
theorem lay_more {n : Nat} {b : Int} : ∀ {ts : List Nat} {ds r : List Int}, ds.length = n → lay n b ts ds = .inr r → lay (n + 1) b ts (ds ++ [-1]) = .inr (r ++ [-1])
  | [], ds, r, hl, h => by simp only [lay, Sum.inr.injEq] at h ⊢; rw [h]
  | t :: ts, ds, r, hl, h => by
    unfold lay at h
    split at h
    · cases h
    · rename_i ht
      have h1 : (ds ++ [-1]).getD t (-1) = ds.getD t (-1) := by simp only [List.getD_eq_getElem?_getD]; rw [List.getElem?_append_left (by omega)]
      unfold lay
      rw [if_neg (by omega), h1]
      split at h
      · rename_i hd
        rw [if_pos hd, List.set_append_left _ _ (by omega)]
        exact lay_more (by simpa using hl) h
      · rename_i hd
        rw [if_neg hd]
        split at h
        · cases h
        · rename_i hb
          rw [if_neg hb]
          exact lay_more hl h
theorem reachN_mono {sh : List Sh} : ∀ {k : Nat} {ds r : List Int} {dn : List Bool}, reachN sh k ds dn = .inr r → reachN sh (k + 1) ds dn = .inr r
  | 0, ds, r, dn, h => by simp [reachN] at h
  | k + 1, ds, r, dn, h => by
    rw [reachN] at h
    rw [reachN]
    split at h
    · exact h
    · split at h
      · cases h
      · split at h
        · cases h
        · split at h
          · cases h
          · rename_i h1 _ _ _
            rw [if_neg h1]
            exact reachN_mono h
theorem reachN_more {sh : List Sh} (s0 : Sh) : ∀ {k : Nat} {ds r : List Int} {dn : List Bool}, ds.length = sh.length → dn.length = sh.length → reachN sh k ds dn = .inr r → reachN (sh ++ [s0]) k (ds ++ [-1]) (dn ++ [false]) = .inr (r ++ [-1])
  | 0, ds, r, dn, h1, h2, h => by simp [reachN] at h
  | k + 1, ds, r, dn, h1, h2, h => by
    have hle : least (ds ++ [-1]) (dn ++ [false]) = least ds dn := by
      unfold least; rw [List.length_append]; exact leastF_more (by omega) (by simp)
    rw [reachN] at h
    rw [reachN, hle]
    split at h
    · rename_i hn
      simp only [Sum.inr.injEq] at h; subst h
      rfl
    · rename_i at_ hn
      split at h
      · cases h
      · rename_i s hs
        have hat : at_ < sh.length := (List.getElem?_eq_some_iff.1 hs).1
        have e1 : (ds ++ [-1]).getD at_ (-1) = ds.getD at_ (-1) := by simp only [List.getD_eq_getElem?_getD]; rw [List.getElem?_append_left (by omega)]
        rw [List.getElem?_append_left hat, hs]
        simp only
        rw [e1]
        split at h
        · cases h
        · rename_i hok
          rw [if_neg hok]
          split at h
          · cases h
          · rename_i ds' hy
            rw [List.length_append, List.length_cons, List.length_nil, lay_more h1 hy, List.set_append_left _ _ (by omega)]
            exact reachN_more s0 ((lay_len hy).trans h1) (by simpa using h2) h
theorem reach_more {sh : List Sh} (s0 : Sh) (h0 : 0 < sh.length) {r : List Int} (h : reach sh = .inr r) : reach (sh ++ [s0]) = .inr (r ++ [-1]) := by
  unfold reach at h ⊢
  rw [List.length_append, List.length_cons, List.length_nil]
  have e := reachN_mono (reachN_more s0 (by simp) (by simp) h)
  have e1 : (List.replicate (sh.length + 1) (-1 : Int)).set 0 0 = (List.replicate sh.length (-1 : Int)).set 0 0 ++ [-1] := by
    rw [List.replicate_succ', List.set_append_left _ _ (by simpa using h0)]
  have e2 : List.replicate (sh.length + 1) false = List.replicate sh.length false ++ [false] := List.replicate_succ'
  rw [e1, e2]; exact e
theorem tail_good {p : List Fu} (hp : good p = true) {i : Nat} {f : Fu} (hf : p[i]? = some f) (hl : f.c.length < 200) {f' : Fu} (ha : f'.arity = f.arity) (hlo : f'.locals = f.locals) (hsl : f'.slots = f.slots) (hc : f'.c = f.c ++ [⟨3, 0, 0⟩]) :
    good (p.set i f') = true ∧ depthsOf (p.set i f') f' = depthsOf p f ++ [-1] := by
  obtain ⟨p1, p2⟩ := good_iff.1 hp
  have hi : i < p.length := (List.getElem?_eq_some_iff.1 hf).1
  have hfm := List.mem_of_getElem? hf
  have har : (p.set i f').map (·.arity) = p.map (·.arity) := by
    apply List.ext_getElem?
    intro j
    simp only [List.getElem?_map, List.getElem?_set]
    split
    · rename_i h; subst h
      rw [hf]; simp [ha]
    · rfl
  have h3 : shapes p f'.c = shapes p f.c ++ [⟨2, 1, [f.c.length + 1]⟩] := by
    rw [hc]; unfold shapes; rw [List.mapIdx_append]; simp [offP, off6, on6, nextP]
  obtain ⟨d1, d2⟩ := good_fin hp hfm
  have hr : reach (shapes (p.set i f') f'.c) = .inr (depthsOf p f ++ [-1]) := by
    rw [shapes_ar har, h3]
    exact reach_more _ (by rw [shapes_len]; have := fmay_len (mayP_f p1 hfm); omega) d1
  refine ⟨good_iff.2 ⟨?_, fun g hg => ?_⟩, by unfold depthsOf; rw [hr]; rfl⟩
  · unfold mayP at p1 ⊢
    simp only [Bool.and_eq_true, decide_eq_true_eq, List.all_eq_true, List.length_set] at p1 ⊢
    refine ⟨⟨fun g hg => ?_, p1.1.2⟩, p1.2⟩
    rcases List.mem_or_eq_of_mem_set hg with h | rfl
    · exact p1.1.1 g h
    · have := p1.1.1 f hfm
      unfold fmay headOk at this ⊢
      rw [ha, hlo, hsl, hc]
      simp only [Bool.and_eq_true, decide_eq_true_eq, List.all_append, List.length_append, List.length_cons, List.length_nil] at this ⊢
      refine ⟨⟨⟨this.1.1.1, by omega⟩, by omega⟩, this.2, by decide⟩
  · rcases List.mem_or_eq_of_mem_set hg with h | rfl
    · obtain ⟨a, b, c⟩ := p2 g h
      exact ⟨a, by rw [List.length_set]; exact b, by rw [shapes_ar har]; exact c⟩
    · obtain ⟨a, b, c⟩ := p2 f hfm
      refine ⟨by rw [ha, hlo]; exact a, fun x hx => ?_, _, hr⟩
      rw [hc] at hx
      rcases List.mem_append.1 hx with hx | hx
      · have h1 := b x hx
        rw [List.length_set]
        unfold fieldE at h1 ⊢
        rw [hlo, hsl, hc, List.length_append, List.length_cons, List.length_nil]
        (repeat' split at h1) <;> (repeat' split) <;> omega
      · simp only [List.mem_singleton] at hx; subst hx
        simp [fieldE]
end Go.Proofs.YtghidjgejmmcmaaW.Md
