import Derived.Test.YtclfpfdpaigdiaaVmR6
set_option linter.unusedVariables false
set_option linter.unusedSimpArgs false
namespace Go.Proofs.YtclfpfdpaigdiaaW.Rg
open Go.Proofs.YtclfpfdpaigdiaaW.Vm
open Go Go.Proofs
theorem eq_sl_nil {P : Program} {t e : Nat} (he : elemT P t = some e) (x y z xs tg) : binD P .eql t x y (.sl z xs tg) .snil = some (.bool false) := by simp [binD, scal, eqD, he]
theorem eq_nil_nil {P : Program} {t e : Nat} (he : elemT P t = some e) (x y) : binD P .eql t x y .snil .snil = some (.bool true) := by simp [binD, scal, eqD, he]
theorem app_own {P : Program} {ats : Array TypeId} {ty t t' e e' sz b : Nat} {ag : Bool} {x : D} {old new : List D} {h : List Ob} {id ver off len : Nat} {o : Ob} (ha0 : ats[0]? = some t) (ha1 : ats[1]? = some t') (hel : elemT P t = some e) (hu : P.underlying t' = some (.slice e'))
    (hs : szT P e = some sz) (hs' : szT P e' = some sz) (hb : byT P e = some b) (hag : aggT P e = some ag) (hz : zeroOk P e = true) (hb0 : 0 < b) (hs0 : 0 < sz) (ho : elsOf h (.own sz id ver off len) = some old) (hnew : elsZ h sz x = some new) (hn0 : new.length ≠ 0)
    (hbig : (old.length + new.length) * b ≤ 2 ^ 47) (hh : h[id]? = some o) (hf : o.frz ≤ off + len) :
    builtinD P h .append ats ty [.own sz id ver off len, x] = some (.own sz id (ver + 1) 0 (len + new.length), h.set id { o with ver := ver + 1, els := old ++ new, frz := o.frz - off }) := by
  simp only [builtinD, appendD, ha0, hel, hs, hb, Option.getD_some, elsZ_own, ho, hag, appNew, ha1, hu, hs', hnew, big, hz, hh, hf, if_true, if_neg hn0]
  rw [if_pos ⟨hbig, hb0, hs0, trivial⟩]
def pushes (r : Ring) (l : List Ref) : Ring := l.foldl pushed r
theorem pushed_many (r : Ring) (x : Ref) : (pushed r x).many = r.many + 1 ∧ (pushed r x).most = r.most := by
  unfold pushed laid grown
  split <;> exact ⟨rfl, rfl⟩
theorem pushes_ok : ∀ (l : List Ref) (r : Ring), Ok r → r.many + l.length ≤ r.most → Ok (pushes r l) ∧ (pushes r l).many = r.many + l.length ∧ (pushes r l).most = r.most
  | [], r, h, _ => ⟨h, by simp [pushes], rfl⟩
  | x :: l, r, h, hl => by
    simp only [List.length_cons] at hl
    obtain ⟨e1, e2⟩ := pushed_many r x
    obtain ⟨a, b, c⟩ := pushes_ok l (pushed r x) (h.pushed (by omega) x) (by rw [e1, e2]; omega)
    exact ⟨a, by show (pushes (pushed r x) l).many = _; rw [b, e1]; simp; omega, by show (pushes (pushed r x) l).most = _; rw [c, e2]⟩
theorem push_loop (r : Ring) (h : Ok r) (b : Option (List Ref)) (l : List Ref) (hb : b.getD [] = l) (hl : r.many + l.length ≤ r.most) {X : Type} (K : Ex × St → Option X) (x : X) : ∀ (m i : Nat) (H : List Ob) (id ver : Nat) (σ : Nat → D), i + m = l.length →
    H[1]? = some ⟨0, 4, [.agg [.snil, I 0, I 0, I 0]], 0⟩ → H[2]? = some ⟨0, 4, [ownRing id ver (pushes r (l.take i))], 0⟩ → H[id]? = some ⟨ver, 2, (pushes r (l.take i)).l.map encRef, 0⟩ → 3 ≤ id →
    σ 4 = .ptr 1 0 0 0 → σ 6 = .ptr 2 0 0 0 → σ 31 = encS b → σ 32 = I l.length → σ 33 = I i →
    (∀ σ' H' id' ver', σ' 4 = .ptr 1 0 0 0 → σ' 6 = .ptr 2 0 0 0 → H'[1]? = some ⟨0, 4, [.agg [.snil, I 0, I 0, I 0]], 0⟩ → H'[2]? = some ⟨0, 4, [ownRing id' ver' (pushes r l)], 0⟩ → H'[id']? = some ⟨ver', 2, (pushes r l).l.map encRef, 0⟩ → 3 ≤ id' →
      K (.exit 1, ⟨σ', H', 43⟩) = some x) →
    (W Try.prog cfg (.loop (loopAt Try.f11 8)) ⟨σ, H, 43⟩).bind K = some x
  | 0, i, H, id, ver, σ, hm, o1, o2, oi, h3, s4, s6, s31, s32, s33, hK => by
    obtain rfl : i = l.length := by omega
    rw [List.take_of_length_le (Nat.le_refl _)] at o2 oi
    rw [Wloop]
    conv => lhs; arg 1; arg 1; simp [loopAt, loopIn, headId, Try.f11, s32, s33]
    exact hK _ H id ver (by simp [s4]) (by simp [s6]) o1 o2 oi h3
  | m + 1, i, H, id, ver, σ, hm, o1, o2, oi, h3, s4, s6, s31, s32, s33, hK => by
    have := h.h3; have := h.h6
    have hlt : i < l.length := by omega
    have htl : (l.take i).length = i := by simp; omega
    obtain ⟨ho, hmn, hms⟩ := pushes_ok (l.take i) r h (by rw [htl]; omega)
    have hH : 2 < H.length := by
      rcases Nat.lt_or_ge 2 H.length with h | h
      · exact h
      · rw [List.getElem?_eq_none h] at o2; cases o2
    have hHi : id < H.length := by
      rcases Nat.lt_or_ge id H.length with h | h
      · exact h
      · rw [List.getElem?_eq_none h] at oi; cases oi
    have hix := ix_encS b i (by rw [hb]; omega)
    rw [hb, show ((i : Int).toNat) = i by simp] at hix
    have hg : l[i]? = some l[i] := List.getElem?_eq_getElem hlt
    have hwr : IntKind.i64.wrap ((i : Int) + 1) = i + 1 := IntWalk.i64_in _ (by omega)
    have hnext : pushes r (l.take (i + 1)) = pushed (pushes r (l.take i)) l[i] := by
      rw [List.take_add_one, hg]; unfold pushes; rw [List.foldl_append]; rfl
    generalize pushes r (l.take i) = g at *
    have g2 : ∀ t, (H ++ t)[2]? = some ⟨0, 4, [ownRing id ver g], 0⟩ := fun t => by rw [get_lt hH, o2]
    obtain ⟨h', id', ver', hpu, L⟩ := push28 g ho (by rw [hmn, hms, htl]; omega) l[i] id ver (H ++ [⟨0, 2, [encRef l[i]], 0⟩]) (by rw [get_lt hHi, oi])
    have h2 : h'[2]? = some ⟨0, 4, [ownRing id ver g], 0⟩ := by rw [L.old 2 (by simp; omega) (by omega), g2]
    have h1 : h'[1]? = some ⟨0, 4, [.agg [.snil, I 0, I 0, I 0]], 0⟩ := by rw [L.old 1 (by simp; omega) (by omega), get_lt (by omega), o1]
    have hid' : 3 ≤ id' := by rcases L.new with e | e; omega; simp at e; omega
    have hle := L.le
    simp at hle
    rw [Wloop]
    conv => lhs; arg 1; arg 1; simp [loopAt, loopIn, headId, Try.f11, s6, s31, s32, s33, hlt, hix, hg, hwr, get_app, get_app0, set_app, set_app0, g2, hpu, h2]
    rw [Option.bind_some, loopK_normal]
    refine push_loop r h b l hb hl K x m (i + 1) _ id' ver' _ (by omega) ?_ ?_ ?_ hid' (by simp [s4]) (by simp [s6]) (by simp [s31]) (by simp [s32]) (by simp) hK
    · rw [List.getElem?_set_ne (by omega), h1]
    · rw [List.getElem?_set_self (by omega), hnext]
    · rw [List.getElem?_set_ne (by omega), hnext]; exact L.at_
theorem push_ok {r : Ring} (h : Ok r) (b : Option (List Ref)) (hl : r.many + (b.getD []).length ≤ r.most) : fnc Try.prog cfg R 11 [encRing r, encS b] = some (.tup [encRing { pushes r (b.getD []) with buf := some (pushes r (b.getD [])).l }, I 0]) := by
  have := h.h1; have := h.h2; have := h.h3; have := h.h6; have := h.h7
  obtain ⟨l, hbl⟩ : ∃ l, b.getD [] = l := ⟨_, rfl⟩
  obtain ⟨rl, hrl⟩ : ∃ rl, r.buf = some rl := by
    cases hb : r.buf with
    | none => have : r.l = [] := by simp [Ring.l, hb]
              have h1 := h.h1; rw [this] at h1; simp at h1
    | some rl => exact ⟨rl, rfl⟩
  have hrr : r.l = rl := by simp [Ring.l, hrl]
  rw [hbl] at hl ⊢
  have hw : IntKind.i64.wrap (r.many + (l.length : Int)) = r.many + l.length := IntWalk.i64_in _ (by omega)
  have hgt : decide (r.most < r.many + (l.length : Int)) = false := by simp; omega
  have hm := may_ok h
  unfold encRing at hm
  rw [hrl, encS_some] at hm
  rw [fnc_eq cfg_ext, body_eq Try.func11 rfl rfl]
  unfold encRing
  rw [hrl, encS_some]
  have hrlb : rl.length ≤ 1024 := by rw [← hrr]; omega
  have hrl0 : rl.length ≠ 0 := by rw [← hrr]; omega
  have hap : ∀ h : List Ob, apK 16 2 h (.sl 2 [] true) [] (rl.map encRef) = some (.own 2 h.length 0 0 rl.length, h ++ [⟨0, 2, rl.map encRef, 0⟩]) := fun h => by
    rw [apK_ok (by simp; omega), apN_sl' (by simpa using hrl0)]; simp
  have hnil := fun x y xs tg => eq_sl_nil (P := Try.prog) el22 x y 2 xs tg
  simp [argsσ, hm, hbl, hw, hgt, body_eq Try.func27 rfl rfl, hnil, hap, Vm.results, Option.bind_assoc]
  refine push_loop r h b l hbl hl _ _ l.length 0 _ 3 0 _ (by omega) (by simp) (by simp [pushes, hrr]) (by simp [pushes, hrr]) (by omega) (by simp) (by simp) (by simp) (by simp) (by simp) ?_
  intro σ' H' id' ver' s4 s6 o1 o2 oi h3
  have hH : 2 < H'.length := by
    rcases Nat.lt_or_ge 2 H'.length with h | h
    · exact h
    · rw [List.getElem?_eq_none h] at o2; cases o2
  have g1 : ∀ o, (H'.set 1 o)[1]? = some o := fun o => by rw [List.getElem?_set_self (by omega)]
  have gi : ∀ o, (H'.set 1 o)[id']? = some ⟨ver', 2, (pushes r l).l.map encRef, 0⟩ := fun o => by rw [List.getElem?_set_ne (by omega), oi]
  simp [s4, s6, o1, o2, g1, gi, Vm.results, exp_own, elsOf_own, take_refs, cleans_refs]
end Go.Proofs.YtclfpfdpaigdiaaW.Rg
