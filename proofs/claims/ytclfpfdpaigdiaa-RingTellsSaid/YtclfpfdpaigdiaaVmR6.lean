import Derived.Test.YtclfpfdpaigdiaaVmR5
set_option linter.unusedVariables false
set_option linter.unusedSimpArgs false
namespace Go.Proofs.YtclfpfdpaigdiaaW.Rg
open Go.Proofs.YtclfpfdpaigdiaaW.Vm
open Go Go.Proofs
/-! heaps that are not known -/
theorem take_refs (l : List Ref) : (l.map encRef).take l.length = l.map encRef := by rw [List.take_of_length_le (by simp)]
@[reducible] def ownRing (id ver : Nat) (r : Ring) : D := .agg [.own 2 id ver 0 r.l.length, I r.head, I r.many, I r.most]
/-- a ring with more places -/
def grown (r : Ring) : Ring := { buf := some (items r ++ List.replicate ((min (2 * (r.l.length : Int)) r.most).toNat - r.many.toNat) rf0), head := 0, many := r.many, most := r.most }
theorem items_some (r : Ring) (l : List Ref) (hl : r.l = l) : items { buf := some l, head := r.head, many := r.many, most := r.most } = items r := by
  subst hl; rfl
theorem copy_own {P : Program} {t e sz : Nat} {ats : Array TypeId} {ty : TypeId} (ha : ats[0]? = some t) (he : elemT P t = some e) (hs : szT P e = some sz) (h : List Ob) (id ver len : Nat) (xs : List D) (tg : Bool) (o : Ob) (ho : h[id]? = some o)
    (h1 : o.ver = ver) (h2 : o.frz = 0) (h3 : len ≤ o.els.length) (h4 : o.esz = sz) (h5 : 0 < xs.length) (h6 : xs.length ≤ len) :
    builtinD P h .copy ats ty [.own sz id ver 0 len, .sl sz xs tg] = some (.int .i64 xs.length, h.set id { o with els := xs ++ o.els.drop xs.length }) := by
  have hm : Nat.min xs.length len = xs.length := Nat.min_eq_left h6
  have h0 : ¬ (xs.length = 0) := by omega
  simp only [builtinD, copyD, ha, he, hs, Option.getD_some, lenS_own, elsZ_sl, hm, h0, if_false, ho, h1, h2, h4]
  rw [if_pos ⟨trivial, trivial, by omega, by omega, trivial⟩]
  simp
theorem grow34 (r : Ring) (h : Ok r) (hfull : r.many = r.l.length) (id ver : Nat) (hp : List Ob) (hid : hp[id]? = some ⟨ver, 2, r.l.map encRef, 0⟩) :
    ∃ rest, body Try.prog R 34 [ownRing id ver r] hp = some (ownRing (hp.length + 2) 0 (grown r), hp.set id ⟨ver, 2, r.l.map encRef, r.l.length⟩ ++ [⟨0, 4, [ownRing (hp.length + 2) 0 (grown r)], 0⟩, rest, ⟨0, 2, (grown r).l.map encRef, 0⟩]) := by
  have := h.h1; have := h.h2; have := h.h3; have := h.h6; have := h.h7
  obtain ⟨n, hn⟩ : ∃ n : Nat, (n : Int) = min (2 * (r.l.length : Int)) r.most := ⟨(min (2 * (r.l.length : Int)) r.most).toNat, by omega⟩
  have hlt : id < hp.length := by
    rcases Nat.lt_or_ge id hp.length with h | h
    · exact h
    · rw [List.getElem?_eq_none h] at hid; cases hid
  have hw1 : IntKind.i64.wrap (2 * (r.l.length : Int)) = 2 * r.l.length := IntWalk.i64_in _ (by omega)
  have hmin : (if r.most < 2 * (r.l.length : Int) then r.most else 2 * r.l.length) = n := by split <;> omega
  have hmk := fun (hp : List Ob) => mk_slice (P := Try.prog) el22 sz33 by33 ze33 (by simp) (by decide) (by decide) hp .i64 .i64 n n (by omega) (by omega) (by omega)
  rw [show ((n : Int).toNat) = n by simp] at hmk
  rw [rep_refs] at hmk
  have h33 := items33 { buf := some r.l, head := r.head, many := r.many, most := r.most } ⟨h.h1, h.h2, h.h3, h.h4, h.h5, h.h6, h.h7⟩
  rw [items_some r r.l rfl] at h33
  unfold encRing at h33
  rw [encS_some] at h33
  simp only at h33
  have hl0 : 0 < r.l.length := by omega
  have hln : r.l.length ≤ n := by omega
  have gl : ∀ l, (hp ++ l)[id]? = some ⟨ver, 2, r.l.map encRef, 0⟩ := fun l => by rw [get_lt hlt, hid]
  have sl : ∀ l o, (hp ++ l).set id o = hp.set id o ++ l := fun l o => set_lt hlt o
  have hil : (items r).length = r.l.length := by simp [items]; omega
  have hco := fun (hp : List Ob) (id : Nat) (o : Ob) ty => copy_own (P := Try.prog) (ats := #[22, 22]) (ty := ty) rfl el22 sz33 hp id 0 n ((items r).map encRef) false o
  rw [body_eq Try.func34 rfl rfl]
  simp [argsσ, Vm.results, get_app, get_app0, set_app, set_app0, gl, sl, hw1, bu_min, hmin, hmk, exp_own, elsOf_own, h33, retK, frz_one (gl _), hil, hco, hl0, hln, take_refs, marks_own, cfg_nomark, -List.map_replicate]
  have hgl : (grown r).l = items r ++ List.replicate (n - r.l.length) rf0 := by
    show (some (items r ++ _)).getD [] = _
    rw [Option.getD_some, ← hn]
    congr 2
    omega
  refine ⟨⟨?_, rfl, rfl, rfl⟩, ?_⟩
  · rw [hgl]; simp [hil]; omega
  · rw [hgl]; simp [List.drop_replicate]
/-- an item more -/
def laid (r : Ring) (x : Ref) : Ring := { buf := some (r.l.set ((r.head.toNat + r.many.toNat) % r.l.length) x), head := r.head, many := r.many + 1, most := r.most }
def pushed (r : Ring) (x : Ref) : Ring := laid (if r.many = r.l.length then grown r else r) x
theorem Ok.grown {r : Ring} (h : Ok r) (h0 : r.many = r.l.length) (hm : r.many < r.most) : Ok (grown r) ∧ (Rg.grown r).many < (Rg.grown r).l.length := by
  have := h.h1; have := h.h2; have := h.h3; have := h.h6; have := h.h7
  have hil : (items r).length = r.l.length := by simp [items]; omega
  have hgl : ((Rg.grown r).l.length : Int) = min (2 * (r.l.length : Int)) r.most := by
    show (((some (items r ++ _)).getD []).length : Int) = _
    rw [Option.getD_some, List.length_append, hil, List.length_replicate]
    omega
  refine ⟨⟨?_, ?_, h.h3, ?_, ?_, h.h6, ?_⟩, ?_⟩
  · omega
  · rw [hgl]; show min _ _ ≤ r.most; omega
  · exact Int.le_refl 0
  · show (0 : Int) < _; omega
  · show r.many ≤ _; omega
  · show r.many < _; omega
theorem Ok.laid {r : Ring} (h : Ok r) (hm : r.many < r.l.length) (x : Ref) : Ok (laid r x) := by
  have hl : (Rg.laid r x).l.length = r.l.length := by show ((some (r.l.set _ x)).getD []).length = _; simp
  have := h.h6
  exact ⟨by rw [hl]; exact h.h1, by rw [hl]; exact h.h2, h.h3, h.h4, by rw [hl]; exact h.h5, by show (0 : Int) ≤ r.many + 1; omega, by rw [hl]; show r.many + 1 ≤ (r.l.length : Int); omega⟩
theorem Ok.pushed {r : Ring} (h : Ok r) (hm : r.many < r.most) (x : Ref) : Ok (pushed r x) := by
  unfold Rg.pushed
  have := h.h7
  split
  · rename_i h0; exact (h.grown h0 hm).1.laid (h.grown h0 hm).2 x
  · exact h.laid (by omega) x
/-- what stands behind a push: the places, and what else there is -/
structure Left' (h h' : List Ob) (id id' : Nat) (ver' : Nat) (r : Ring) : Prop where
  at_ : h'[id']? = some ⟨ver', 2, r.l.map encRef, 0⟩
  le : h.length ≤ h'.length
  old : ∀ k, k < h.length → k ≠ id → h'[k]? = h[k]?
  new : id' = id ∨ h.length ≤ id'
theorem place_own {r : Ring} (h : Ok r) : fnc Try.prog cfg R 30 [.agg [.sl 2 (r.l.map encRef) false, I r.head, I r.many, I r.most], I r.many] = some (I ((r.head.toNat + r.many.toNat) % r.l.length : Nat)) := by
  have := h.h6; have := h.h7; have := h.h2; have := h.h3
  have e := place_ok { buf := some r.l, head := r.head, many := r.many, most := r.most } ⟨h.h1, h.h2, h.h3, h.h4, h.h5, h.h6, h.h7⟩ r.many.toNat (by omega)
  unfold encRing at e
  rw [encS_some, Int.toNat_of_nonneg h.h6] at e
  exact e
theorem push28_fits (r : Ring) (h : Ok r) (hroom : r.many < r.l.length) (x : Ref) (id ver : Nat) (hp : List Ob) (hid : hp[id]? = some ⟨ver, 2, r.l.map encRef, 0⟩) :
    ∃ h', body Try.prog R 28 [ownRing id ver r, encRef x] hp = some (ownRing id ver (laid r x), h') ∧ Left' hp h' id id ver (laid r x) := by
  have := h.h1; have := h.h2; have := h.h3; have := h.h6; have := h.h7
  have hlt : id < hp.length := by
    rcases Nat.lt_or_ge id hp.length with h | h
    · exact h
    · rw [List.getElem?_eq_none h] at hid; cases hid
  have gl : ∀ l, (hp ++ l)[id]? = some ⟨ver, 2, r.l.map encRef, 0⟩ := fun l => by rw [get_lt hlt, hid]
  have sl : ∀ l o, (hp ++ l).set id o = hp.set id o ++ l := fun l o => set_lt hlt o
  have hpl := place_own h
  have hq : (r.head.toNat + r.many.toNat) % r.l.length < r.l.length := Nat.mod_lt _ (by omega)
  generalize hqq : (r.head.toNat + r.many.toNat) % r.l.length = q at hpl hq
  have hix := ix_own (P := Try.prog) un22 sz33 id ver 0 r.l.length .i64 q (by omega)
  rw [show (0 + (q : Int).toNat) = q by simp] at hix
  have hge : r.l[q]? = some r.l[q] := List.getElem?_eq_getElem hq
  have hwr : IntKind.i64.wrap (r.many + 1) = r.many + 1 := IntWalk.i64_in _ (by omega)
  have hne : decide (r.many = (r.l.length : Int)) = false := by simp; omega
  have hd := dr28_3
  simp [opsAt, opsIn, Try.f28] at hd
  have hdw := Wdraw0 hd
  rw [body_eq Try.func28 rfl rfl]
  simp [argsσ, Vm.results, get_app, get_app0, set_app, set_app0, gl, sl, exp_own, elsOf_own, take_refs, marks_own, hne, hpl, hix, hge, hwr, hdw, retK_flat]
  clear hd hdw
  have hll : (laid r x).l = r.l.set q x := by show (some (r.l.set _ x)).getD [] = _; rw [hqq]; rfl
  refine ⟨_, ⟨⟨by rw [hll]; simp, rfl, rfl, rfl⟩, rfl⟩, ?_, ?_, ?_, .inl rfl⟩
  · rw [List.getElem?_append_left (by simpa using hlt), List.getElem?_set_self hlt, hll, ← set_refs]
  · simp
  · intro k hk hne
    rw [List.getElem?_append_left (by simpa using hk), List.getElem?_set_ne (Ne.symm hne)]
theorem push28_grow (r : Ring) (h : Ok r) (hfull : r.many = r.l.length) (hroom : r.many < r.most) (x : Ref) (id ver : Nat) (hp : List Ob) (hid : hp[id]? = some ⟨ver, 2, r.l.map encRef, 0⟩) :
    ∃ h', body Try.prog R 28 [ownRing id ver r, encRef x] hp = some (ownRing (hp.length + 5) 0 (laid (grown r) x), h') ∧ Left' hp h' id (hp.length + 5) 0 (laid (grown r) x) := by
  have := h.h1; have := h.h2; have := h.h3; have := h.h6; have := h.h7
  have hlt : id < hp.length := by
    rcases Nat.lt_or_ge id hp.length with h | h
    · exact h
    · rw [List.getElem?_eq_none h] at hid; cases hid
  have gl : ∀ l, (hp ++ l)[id]? = some ⟨ver, 2, r.l.map encRef, 0⟩ := fun l => by rw [get_lt hlt, hid]
  have sl : ∀ l o, (hp ++ l).set id o = hp.set id o ++ l := fun l o => set_lt hlt o
  obtain ⟨rest, hgrow⟩ := grow34 r h hfull id ver (hp ++ [⟨0, 4, [ownRing id ver r], 0⟩, ⟨0, 2, [encRef x], 0⟩, ⟨0, 4, [.agg [.snil, I 0, I 0, I 0]], 0⟩]) (gl _)
  simp only [sl, List.length_append, List.length_cons, List.length_nil, List.append_assoc, List.cons_append, List.nil_append, Nat.zero_add, Nat.reduceAdd, Nat.add_assoc] at hgrow
  obtain ⟨hg, hgm⟩ := h.grown hfull hroom
  have hpl := place_own hg
  generalize hgr : grown r = g at *
  have := hg.h1; have := hg.h2; have := hg.h3; have := hg.h6; have := hg.h7
  have hq : (g.head.toNat + g.many.toNat) % g.l.length < g.l.length := Nat.mod_lt _ (by omega)
  generalize hqq : (g.head.toNat + g.many.toNat) % g.l.length = q at hpl hq
  have hix := ix_own (P := Try.prog) un22 sz33 (hp.length + 5) 0 0 g.l.length .i64 q (by omega)
  rw [show (0 + (q : Int).toNat) = q by simp] at hix
  have hge : g.l[q]? = some g.l[q] := List.getElem?_eq_getElem hq
  have hwr : IntKind.i64.wrap (g.many + 1) = g.many + 1 := IntWalk.i64_in _ (by omega)
  have hne : decide (r.many = (r.l.length : Int)) = true := by simp; omega
  have hd := dr28_3
  simp [opsAt, opsIn, Try.f28] at hd
  have hdw := Wdraw0 hd
  rw [body_eq Try.func28 rfl rfl]
  simp [argsσ, Vm.results, get_app, get_app0, set_app, set_app0, gl, sl, exp_own, elsOf_own, take_refs, marks_own, hne, hpl, hix, hge, hwr, hdw, retK_flat, hgrow]
  clear hd hdw
  have hll : (laid g x).l = g.l.set q x := by show (some (g.l.set _ x)).getD [] = _; rw [hqq]; rfl
  refine ⟨_, ⟨⟨by rw [hll]; simp, rfl, rfl, rfl⟩, rfl⟩, ?_, ?_, ?_, .inr (by omega)⟩
  · rw [get_app (by simp) 5, hll, ← set_refs]; rfl
  · simp
  · intro k hk hne
    rw [List.getElem?_append_left (by simpa using hk), List.getElem?_set_ne (Ne.symm hne)]
theorem push28 (r : Ring) (h : Ok r) (hroom : r.many < r.most) (x : Ref) (id ver : Nat) (hp : List Ob) (hid : hp[id]? = some ⟨ver, 2, r.l.map encRef, 0⟩) :
    ∃ h' id' ver', body Try.prog R 28 [ownRing id ver r, encRef x] hp = some (ownRing id' ver' (pushed r x), h') ∧ Left' hp h' id id' ver' (pushed r x) := by
  unfold pushed
  have := h.h7
  split
  · rename_i h0
    obtain ⟨h', a, b⟩ := push28_grow r h h0 hroom x id ver hp hid
    exact ⟨h', _, _, a, b⟩
  · obtain ⟨h', a, b⟩ := push28_fits r h (by omega) x id ver hp hid
    exact ⟨h', _, _, a, b⟩
end Go.Proofs.YtclfpfdpaigdiaaW.Rg
