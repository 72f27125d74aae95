/- What the laws of pens say, as plain lists. No conditions. -/
import Derived.Test.YtopgmnjijioheaaVmPM3
set_option linter.unusedVariables false
set_option linter.unusedSimpArgs false
namespace Go.Proofs.YtopgmnjijioheaaW.Md
open Go.Proofs.YtopgmnjijioheaaW.Vm
/-- a frame was laid at n -/
structure Laid (p a : Pn) (r : Rf) (x : Fx) (n : Nat) : Prop where
  at_ : r.ag = (n : Int)
  may : mayPn a = true
  most : a.most = p.most
  cell : a.cells[n]? = some ⟨r.gen, true, x⟩
  other : ∀ k, k ≠ n → a.cells[k]? = p.cells[k]?
  fresh : ∀ c, p.cells[n]? = some c → c.used = false
  gen : genOk ⟨r.gen, true, x⟩ = true
  gen1 : ∀ c, p.cells[n]? = some c → r.gen = c.gen
  gen0 : p.cells[n]? = none → r.gen = 0
  free : a.free = p.free.dropLast
  num : (n : Int) = if p.free = [] then (p.cells.length : Int) else lastZ p.free
  len : a.cells.length = if p.free = [] then p.cells.length + 1 else p.cells.length
theorem last_split {l : List Int} (h : l ≠ []) : l = l.dropLast ++ [lastZ l] := by
  unfold lastZ
  rw [List.getLast?_eq_some_getLast h]
  exact (List.dropLast_concat_getLast h).symm
theorem lay_is {p : Pn} (h : mayPn p = true) (x : Fx) : ((layPn p x).2.2 = 120 ∧ p.free = [] ∧ (p.cells.length : Int) = p.most ∧ (layPn p x).1 = p) ∨ ((layPn p x).2.2 = 0 ∧ (p.free = [] → (p.cells.length : Int) ≠ p.most) ∧ ∃ n, Laid p (layPn p x).1 (layPn p x).2.1 x n) := by
  have hz : ¬ mayPn p = false := by rw [h]; decide
  unfold layPn
  rw [if_neg hz]
  by_cases hf : p.free = []
  · rw [if_pos hf]
    by_cases hl : (p.cells.length : Int) = p.most
    · rw [if_pos hl]; exact .inl ⟨rfl, hf, hl, rfl⟩
    · rw [if_neg hl]
      refine .inr ⟨rfl, fun _ => hl, p.cells.length, rfl, may_grow h hf hl rfl rfl, rfl, by simp, fun k hk => ?_, fun c hc => ?_, rfl, fun c hc => ?_, fun _ => rfl, by rw [hf]; rfl, by rw [if_pos hf], by rw [if_pos hf]; simp⟩
      · simp only
        by_cases h2 : k < p.cells.length
        · rw [List.getElem?_append_left h2]
        · rw [List.getElem?_eq_none (l := p.cells) (by omega), List.getElem?_eq_none (by simp; omega)]
      · rw [List.getElem?_eq_none (by omega)] at hc; cases hc
      · rw [List.getElem?_eq_none (by omega)] at hc; cases hc
  · rw [if_neg hf]
    obtain ⟨a1, a2, a3, a4⟩ := (may_iff p).1 h
    have hs := last_split hf
    have hm : lastZ p.free ∈ p.free := by unfold lastZ; rw [List.getLast?_eq_some_getLast hf]; exact List.getLast_mem hf
    obtain ⟨n, ⟨c, hc, hu⟩, hn⟩ := (a4 _).1 hm
    rw [hn] at hs ⊢
    have hca : cellAt p (n : Int) = c := by unfold cellAt; simp [hc]
    have hl := (List.getElem?_eq_some_iff.1 hc).1
    have hg : genOk (⟨c.gen, true, x⟩ : Ce) = true := by have := a2 c (List.mem_of_getElem? hc); exact this
    rw [hca]
    refine .inr ⟨rfl, fun e => absurd e hf, n, rfl, ?_, rfl, ?_, fun k hk => ?_, fun d hd => ?_, hg, fun d hd => ?_, fun hd => ?_, rfl, by rw [if_neg hf, hn], by rw [if_neg hf]; simp⟩
    · simp only [Int.toNat_natCast]
      exact may_use h hc hs rfl hg
    · simp only [Int.toNat_natCast]
      exact List.getElem?_set_self hl
    · simp only [Int.toNat_natCast]
      exact List.getElem?_set_ne (Ne.symm hk)
    · rw [hc] at hd; rw [← Option.some.inj hd]; exact hu
    · rw [hc] at hd; rw [← Option.some.inj hd]
    · rw [hc] at hd; cases hd
theorem rf_eq {r : Rf} {n : Nat} (h : r.ag = (n : Int)) : r = ⟨(n : Nat), r.gen⟩ := by
  obtain ⟨a, g⟩ := r
  simp only at h
  rw [h]
theorem Laid.held {p a : Pn} {r : Rf} {x : Fx} {n : Nat} (h : Laid p a r x n) : heldPn a r = true := (held_iff a r).2 ⟨n, _, h.cell, rfl, rf_eq h.at_⟩
theorem Laid.get {p a : Pn} {r : Rf} {x : Fx} {n : Nat} (h : Laid p a r x n) : getPn a r = some x := by
  have := get_some h.may h.cell rfl
  rw [← rf_eq h.at_] at this; exact this
/-- refs of all others stay -/
theorem Laid.refs {p a : Pn} {r : Rf} {x : Fx} {n : Nat} (h : Laid p a r x n) (hp : mayPn p = true) (q : Rf) : q ∈ refsPn a ↔ q = r ∨ q ∈ refsPn p := by
  rw [← held_mem h.may, ← held_mem hp, held_iff, held_iff]
  constructor
  · rintro ⟨k, c, h1, h2, rfl⟩
    by_cases e : k = n
    · subst e
      rw [h.cell] at h1
      left
      rw [rf_eq h.at_, ← Option.some.inj h1]
    · rw [h.other k e] at h1; exact .inr ⟨k, c, h1, h2, rfl⟩
  · rintro (rfl | ⟨k, c, h1, h2, rfl⟩)
    · exact ⟨n, _, h.cell, rfl, rf_eq h.at_⟩
    · have e : k ≠ n := by rintro rfl; have := h.fresh c h1; rw [h2] at this; cases this
      exact ⟨k, c, by rw [h.other k e, h1], h2, rfl⟩
theorem Laid.not_old {p a : Pn} {r : Rf} {x : Fx} {n : Nat} (h : Laid p a r x n) (hp : mayPn p = true) {q : Rf} (hq : q ∈ refsPn p) : q.ag ≠ r.ag := by
  rw [← held_mem hp, held_iff] at hq
  obtain ⟨k, c, h1, h2, rfl⟩ := hq
  intro e
  rw [h.at_] at e
  have : k = n := by simp only at e; omega
  subst this
  have := h.fresh c h1; rw [h2] at this; cases this
theorem Laid.old {p a : Pn} {r : Rf} {x : Fx} {n : Nat} (h : Laid p a r x n) (hp : mayPn p = true) {q : Rf} (hq : q ∈ refsPn p) : ∃ z, getPn p q = some z ∧ getPn a q = some z := by
  rw [← held_mem hp, held_iff] at hq
  obtain ⟨k, c, h1, h2, rfl⟩ := hq
  have e : k ≠ n := by rintro rfl; have := h.fresh c h1; rw [h2] at this; cases this
  exact ⟨c.x, get_some hp h1 h2, get_some h.may (by rw [h.other k e, h1]) h2⟩
theorem refs_sorted (p : Pn) : (refsPn p).Pairwise (fun a b => a.ag < b.ag) := by
  unfold refsPn
  split
  · exact used_sorted _ _
  · exact .nil
theorem refs_flen {p : Pn} (h : mayPn p = true) : (refsPn p).length + p.free.length = p.cells.length := by
  unfold refsPn
  rw [if_pos h, ← flen_eq h]
  exact used_free _ _
/-- sorted insertion -/
def insR (r : Rf) : List Rf → List Rf
  | [] => [r]
  | x :: l => if x.ag < r.ag then x :: insR r l else r :: x :: l
theorem insR_mem {r q : Rf} : ∀ {l : List Rf}, q ∈ insR r l ↔ q = r ∨ q ∈ l
  | [] => by simp [insR]
  | x :: l => by
    unfold insR
    split
    · simp only [List.mem_cons, insR_mem]
      constructor
      · rintro (h | h | h) <;> simp [h]
      · rintro (h | h | h) <;> simp [h]
    · simp only [List.mem_cons]
theorem insR_sorted {r : Rf} : ∀ {l : List Rf}, l.Pairwise (fun a b => a.ag < b.ag) → (∀ q ∈ l, q.ag ≠ r.ag) → (insR r l).Pairwise (fun a b => a.ag < b.ag)
  | [], _, _ => by simp [insR]
  | x :: l, h, hr => by
    obtain ⟨hx, hl⟩ := List.pairwise_cons.1 h
    have hxr := hr x (by simp)
    unfold insR
    split
    · rename_i hlt
      refine List.pairwise_cons.2 ⟨fun q hq => ?_, insR_sorted hl fun q hq => hr q (by simp [hq])⟩
      rcases insR_mem.1 hq with rfl | h1
      · exact hlt
      · exact hx q h1
    · rename_i hlt
      refine List.pairwise_cons.2 ⟨fun q hq => ?_, h⟩
      rcases List.mem_cons.1 hq with rfl | h1
      · omega
      · have := hx q h1; omega
theorem insR_len (r : Rf) : ∀ l : List Rf, (insR r l).length = l.length + 1
  | [] => rfl
  | x :: l => by
    unfold insR
    split
    · simp [insR_len r l]
    · simp
theorem Laid.refs_eq {p a : Pn} {r : Rf} {x : Fx} {n : Nat} (h : Laid p a r x n) (hp : mayPn p = true) : refsPn a = insR r (refsPn p) :=
  sortedR_unique (refs_sorted a) (insR_sorted (refs_sorted p) fun q hq => h.not_old hp hq) fun q => by rw [h.refs hp, insR_mem]
/-- a frame is set -/
theorem set_is {p : Pn} (h : mayPn p = true) {k : Nat} {c : Ce} (h1 : p.cells[k]? = some c) (h2 : c.used = true) (x : Fx) : (setPn p ⟨(k : Nat), c.gen⟩ x) = (⟨p.cells.set k ⟨c.gen, true, x⟩, p.free, p.most⟩, 0) ∧ mayPn ⟨p.cells.set k ⟨c.gen, true, x⟩, p.free, p.most⟩ = true := by
  have hh := (held_iff p ⟨(k : Nat), c.gen⟩).2 ⟨k, c, h1, h2, rfl⟩
  refine ⟨?_, may_put h h1 h2 rfl ?_⟩
  · unfold setPn
    rw [if_neg (by rw [h]; decide), if_neg (by rw [hh]; decide)]
    simp
  · exact ((may_iff p).1 h).2.1 c (List.mem_of_getElem? h1)
theorem drop_is {p : Pn} (h : mayPn p = true) {k : Nat} {c : Ce} (h1 : p.cells[k]? = some c) (h2 : c.used = true) : (dropPn p ⟨(k : Nat), c.gen⟩) = (⟨p.cells.set k ⟨(c.gen + 1) % 4294967296, false, fx0⟩, p.free ++ [(k : Int)], p.most⟩, 0) ∧ mayPn ⟨p.cells.set k ⟨(c.gen + 1) % 4294967296, false, fx0⟩, p.free ++ [(k : Int)], p.most⟩ = true := by
  have hh := (held_iff p ⟨(k : Nat), c.gen⟩).2 ⟨k, c, h1, h2, rfl⟩
  refine ⟨?_, may_drop h h1 h2 rfl ?_⟩
  · unfold dropPn
    rw [if_neg (by rw [h]; decide), if_neg (by rw [hh]; decide)]
    simp
  · rw [gen_ok]; simp only; omega
/-- what is told behind a drop -/
theorem drop_refs {p : Pn} (h : mayPn p = true) {k : Nat} {c d : Ce} {F : List Int} (h1 : p.cells[k]? = some c) (h2 : c.used = true) (hd : d.used = false) (hb : mayPn ⟨p.cells.set k d, F, p.most⟩ = true) (q : Rf) : q ∈ refsPn ⟨p.cells.set k d, F, p.most⟩ ↔ q ∈ refsPn p ∧ q ≠ ⟨(k : Nat), c.gen⟩ := by
  have hl := (List.getElem?_eq_some_iff.1 h1).1
  rw [← held_mem hb, ← held_mem h, held_iff, held_iff]
  simp only [List.getElem?_set]
  constructor
  · rintro ⟨j, e, e1, e2, rfl⟩
    by_cases hj : k = j
    · subst hj
      rw [if_pos rfl, if_pos hl] at e1
      rw [← Option.some.inj e1, hd] at e2; cases e2
    · rw [if_neg hj] at e1
      exact ⟨⟨j, e, e1, e2, rfl⟩, fun e => hj (by have := congrArg Rf.ag e; simp only at this; omega)⟩
  · rintro ⟨⟨j, e, e1, e2, rfl⟩, hne⟩
    have hj : k ≠ j := by
      rintro rfl
      rw [h1] at e1
      exact hne (by rw [← Option.some.inj e1])
    exact ⟨j, e, by rw [if_neg hj]; exact e1, e2, rfl⟩
theorem set_refs {p : Pn} (h : mayPn p = true) {k : Nat} {c d : Ce} (h1 : p.cells[k]? = some c) (h2 : c.used = true) (hd : d.used = true) (hg : d.gen = c.gen) (hb : mayPn ⟨p.cells.set k d, p.free, p.most⟩ = true) : refsPn ⟨p.cells.set k d, p.free, p.most⟩ = refsPn p := by
  have hl := (List.getElem?_eq_some_iff.1 h1).1
  refine sortedR_unique (refs_sorted _) (refs_sorted _) fun q => ?_
  rw [← held_mem hb, ← held_mem h, held_iff, held_iff]
  simp only [List.getElem?_set]
  constructor
  · rintro ⟨j, e, e1, e2, rfl⟩
    by_cases hj : k = j
    · subst hj
      rw [if_pos rfl, if_pos hl] at e1
      exact ⟨k, c, h1, h2, by rw [← Option.some.inj e1, hg]⟩
    · rw [if_neg hj] at e1
      exact ⟨j, e, e1, e2, rfl⟩
  · rintro ⟨j, e, e1, e2, rfl⟩
    by_cases hj : k = j
    · subst hj
      rw [h1] at e1
      exact ⟨k, d, by rw [if_pos rfl, if_pos hl], hd, by rw [hg, Option.some.inj e1]⟩
    · exact ⟨j, e, by rw [if_neg hj]; exact e1, e2, rfl⟩
theorem lastZ_app (l : List Int) (n : Int) : lastZ (l ++ [n]) = n := by unfold lastZ; simp
theorem hold_no {p : Pn} (h : mayPn p = true) (x : Fx) (e : (layPn p x).2.2 ≠ 0) : (layPn p x).2.2 = 120 ∧ ((refsPn p).length : Int) = p.most := by
  rcases lay_is h x with ⟨h1, h2, h3, _⟩ | ⟨h1, _⟩
  · refine ⟨h1, ?_⟩
    have := refs_flen h
    rw [h2] at this
    simp at this
    omega
  · exact absurd h1 e
theorem hold_facts {p : Pn} (h : mayPn p = true) (x y : Fx) (e : (layPn p x).2.2 = 0) : ∃ a r b c d s, layPn p x = (a, r, 0) ∧ setPn a r y = (b, 0) ∧ dropPn b r = (c, 0) ∧ layPn c x = (d, s, 0) ∧
    getPn a r = some x ∧ getPn b r = some y ∧ getPn c r = none ∧ getPn d r = none ∧ getPn d s = some x ∧ s.ag = r.ag ∧
    (∀ q ∈ refsPn p, q ≠ r ∧ ∃ z, getPn p q = some z ∧ getPn d q = some z) ∧
    mayPn a = true ∧ mayPn b = true ∧ mayPn c = true ∧ mayPn d = true ∧ (refsPn a).length = (refsPn p).length + 1 ∧ (refsPn b).length = (refsPn p).length + 1 ∧ refsPn c = refsPn p := by
  obtain ⟨⟨a, r, er⟩, ha⟩ : ∃ t, layPn p x = t := ⟨_, rfl⟩
  rw [ha] at e
  simp only at e
  subst e
  rcases lay_is h x with ⟨h1, _⟩ | ⟨_, _, n, L⟩
  · rw [ha] at h1; cases h1
  rw [ha] at L
  simp only at L
  have hr := rf_eq L.at_
  have hla := (List.getElem?_eq_some_iff.1 L.cell).1
  obtain ⟨s1, s2⟩ := set_is L.may L.cell rfl y
  simp only at s1 s2
  rw [← hr] at s1
  obtain ⟨b, hb⟩ : ∃ b : Pn, b = ⟨a.cells.set n ⟨r.gen, true, y⟩, a.free, a.most⟩ := ⟨_, rfl⟩
  have eb := set_refs L.may L.cell rfl (d := ⟨r.gen, true, y⟩) rfl rfl s2
  rw [← hb] at s1 s2 eb
  have cb : b.cells[n]? = some ⟨r.gen, true, y⟩ := by rw [hb]; exact List.getElem?_set_self hla
  have ob : ∀ k, k ≠ n → b.cells[k]? = a.cells[k]? := fun k hk => by rw [hb]; exact List.getElem?_set_ne (Ne.symm hk)
  obtain ⟨d1, d2⟩ := drop_is s2 cb rfl
  simp only at d1 d2
  rw [← hr] at d1
  have hlb := (List.getElem?_eq_some_iff.1 cb).1
  have dr := drop_refs (F := b.free ++ [(n : Int)]) s2 cb rfl (d := ⟨(r.gen + 1) % 4294967296, false, fx0⟩) rfl d2
  simp only at dr
  rw [← hr] at dr
  obtain ⟨c, hc⟩ : ∃ c : Pn, c = ⟨b.cells.set n ⟨(r.gen + 1) % 4294967296, false, fx0⟩, b.free ++ [(n : Int)], b.most⟩ := ⟨_, rfl⟩
  rw [← hc] at d1 d2 dr
  have cc : c.cells[n]? = some ⟨(r.gen + 1) % 4294967296, false, fx0⟩ := by rw [hc]; exact List.getElem?_set_self hlb
  have oc : ∀ k, k ≠ n → c.cells[k]? = b.cells[k]? := fun k hk => by rw [hc]; exact List.getElem?_set_ne (Ne.symm hk)
  have hcf : c.free = b.free ++ [(n : Int)] := by rw [hc]
  have ec : refsPn c = refsPn p := sortedR_unique (refs_sorted _) (refs_sorted _) fun q => by
    rw [dr, eb, L.refs h]
    constructor
    · rintro ⟨h1 | h1, h2⟩
      · exact absurd h1 h2
      · exact h1
    · intro h1
      exact ⟨.inr h1, fun e => L.not_old h h1 (by rw [e])⟩
  obtain ⟨⟨d, s, es⟩, hd⟩ : ∃ t, layPn c x = t := ⟨_, rfl⟩
  rcases lay_is d2 x with ⟨_, h2, _⟩ | ⟨h1, _, n', L2⟩
  · rw [hcf] at h2; simp at h2
  rw [hd] at h1 L2
  simp only at h1 L2
  subst h1
  have hn : n' = n := by
    have := L2.num
    rw [if_neg (by rw [hcf]; simp), hcf, lastZ_app] at this
    omega
  subst hn
  have hsg := L2.gen1 _ cc
  simp only at hsg
  have hg := L.gen
  rw [gen_ok] at hg
  simp only at hg
  have hne : r ≠ s := fun e => by rw [← e] at hsg; omega
  have hrc : r ∉ refsPn c := fun e => (dr r).1 e |>.2 rfl
  refine ⟨a, r, b, c, d, s, ha, s1, d1, hd, L.get, ?_, ?_, ?_, L2.get, by rw [L2.at_, L.at_], fun q hq => ⟨fun e => L.not_old h hq (by rw [e]), ?_⟩, L.may, s2, d2, L2.may, ?_, ?_, ec⟩
  · have := get_some s2 cb rfl
    simp only at this
    rw [← hr] at this; exact this
  · exact get_none (by have := mt (held_mem d2 r).1 hrc; simpa using this)
  · refine get_none ?_
    have := mt (held_mem L2.may r).1 (fun e => by
      rcases (L2.refs d2 r).1 e with h5 | h5
      · exact hne h5
      · exact hrc h5)
    simpa using this
  · have hq2 := hq
    rw [← held_mem h, held_iff] at hq
    obtain ⟨k, z, h1, h2, rfl⟩ := hq
    have hk : k ≠ n' := fun e => L.not_old h hq2 (by rw [L.at_, e])
    exact ⟨z.x, get_some h h1 h2, get_some L2.may (by rw [L2.other k hk, oc k hk, ob k hk, L.other k hk, h1]) h2⟩
  · rw [L.refs_eq h, insR_len]
  · rw [eb, L.refs_eq h, insR_len]
theorem stale_facts (p : Pn) (r : Rf) (x : Fx) : decide ((setPn p r x).2 = 0) = (getPn p r).isSome ∧ decide ((dropPn p r).2 = 0) = (getPn p r).isSome ∧ ((getPn p r).isSome = false → (setPn p r x).1 = p ∧ (dropPn p r).1 = p) := by
  rw [get_is]
  unfold setPn dropPn
  cases h1 : mayPn p
  · simp
  · cases h2 : heldPn p r
    · simp
    · simp
theorem refs_get {p : Pn} {q : Rf} (hq : q ∈ refsPn p) : (getPn p q).isSome = true := by
  have hm : mayPn p = true := by
    unfold refsPn at hq
    split at hq
    · assumption
    · simp at hq
  rw [get_is, hm, (held_mem hm q).2 hq]; rfl
end Go.Proofs.YtopgmnjijioheaaW.Md
