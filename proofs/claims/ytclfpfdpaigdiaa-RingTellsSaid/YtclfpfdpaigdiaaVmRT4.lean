/- The document's half. No conditions. -/
import Derived.Test.YtclfpfdpaigdiaaVmRT3
set_option linter.unusedVariables false
set_option linter.unusedSimpArgs false
namespace Go.Proofs.YtclfpfdpaigdiaaW.Rg
open Go.Proofs.YtclfpfdpaigdiaaW.Vm
open Go Go.Proofs
/-- a list that grows by appends, on a heap of which little is known -/
def OutI (H : List Ob) (d : D) (l : List Ref) : Prop := (l = [] ∧ d = .sl 2 [] true) ∨ ∃ id ver, 2 ≤ id ∧ d = .own 2 id ver 0 l.length ∧ H[id]? = some ⟨ver, 2, l.map encRef, 0⟩
theorem some_lt {α : Type} {l : List α} {i : Nat} {x : α} (h : l[i]? = some x) : i < l.length := (List.getElem?_eq_some_iff.1 h).1
theorem OutI.els {H : List Ob} {d : D} {l : List Ref} (h : OutI H d l) : elsZ H 2 d = some (l.map encRef) := by
  rcases h with ⟨rfl, rfl⟩ | ⟨id, ver, _, rfl, hg⟩
  · simp
  · rw [elsZ_own, elsOf_own, hg, Option.bind_some, if_pos ⟨rfl, rfl, by simp⟩, List.drop_zero, take_refs]
theorem OutI.mono {H H' : List Ob} {d : D} {l : List Ref} (h : OutI H d l) (hH : ∀ k o, 2 ≤ k → H[k]? = some o → H'[k]? = some o) : OutI H' d l := by
  rcases h with h | ⟨id, ver, h2, h3, h4⟩
  · exact .inl h
  · exact .inr ⟨id, ver, h2, h3, hH _ _ h2 h4⟩
theorem OutI.app {H : List Ob} {d : D} {l : List Ref} (h : OutI H d l) (x : Ref) (hl : l.length < 2 ^ 40) (h2 : 2 ≤ H.length) :
    ∃ d' H', apK 16 2 H d (l.map encRef) [encRef x] = some (d', H') ∧ OutI H' d' (l ++ [x]) ∧ H'[0]? = H[0]? ∧ H'[1]? = H[1]? ∧ 2 ≤ H'.length := by
  rw [apK_ok (by simp only [List.length_cons, List.length_nil, List.length_map]; omega)]
  rcases h with ⟨rfl, rfl⟩ | ⟨id, ver, hi, rfl, hg⟩
  · refine ⟨_, _, apN_sl' (by simp), .inr ⟨H.length, 0, h2, by simp, by simp [newOb]⟩, ?_, ?_, by simp [newOb]; omega⟩
    · simp only [newOb]; rw [List.getElem?_append_left (by omega)]
    · simp only [newOb]; rw [List.getElem?_append_left (by omega)]
  · have hlt := some_lt hg
    refine ⟨.own 2 id (ver + 1) 0 (l.length + 1), H.set id ⟨ver + 1, 2, (l ++ [x]).map encRef, 0⟩, ?_, .inr ⟨id, ver + 1, hi, by simp, by rw [List.getElem?_set_self hlt]⟩, ?_, ?_, by simpa using h2⟩
    · rw [apN_own' (by simp), hg]; simp
    · rw [List.getElem?_set_ne (by omega)]
    · rw [List.getElem?_set_ne (by omega)]
theorem OutI.exp {H : List Ob} {d : D} {l : List Ref} (h : OutI H d l) : exp1 H d = some (encS (some l)) := by
  rcases h with ⟨rfl, rfl⟩ | ⟨id, ver, _, rfl, hg⟩
  · simp
  · rw [exp_own, elsOf_own, hg, Option.bind_some, if_pos ⟨rfl, rfl, by simp⟩, List.drop_zero, take_refs, Option.bind_some, ownK_clean _ _ _ (cl_refs l)]
    rfl
theorem rhalf_loop (r : Ring) (h : Ok r) (n : Nat) (hn : (n : Int) ≤ r.many) (o1 : Ob) {X : Type} (K : Ex × St → Option X) (Q : Option X → Prop) : ∀ (m i : Nat) (H : List Ob) (σ : Nat → D), i + m = n →
    H[0]? = some ⟨0, 4, [encRing (st r i)], 0⟩ → H[1]? = some o1 → OutI H (σ 5) (firsts r i) →
    σ 1 = .ptr 0 0 0 0 → σ 2 = .ptr 1 0 0 0 → σ 4 = I n → σ 6 = I i →
    (∀ σ' H', H'[0]? = some ⟨0, 4, [encRing (st r n)], 0⟩ → H'[1]? = some o1 → OutI H' (σ' 5) (firsts r n) → σ' 1 = .ptr 0 0 0 0 → σ' 2 = .ptr 1 0 0 0 → Q (K (.exit 0, ⟨σ', H', 34⟩))) →
    Q ((W Try.prog cfg (.loop (loopAt Try.f18 4)) ⟨σ, H, 34⟩).bind K) := by
  have q1 := h.h1; have q2 := h.h2; have q3 := h.h3; have q6 := h.h6; have q7 := h.h7
  intro m
  induction m with
  | zero =>
    intro i H σ hm h0 h1 ho s1 s2 s4 s6 he
    obtain rfl : i = n := by omega
    rw [Wloop]
    conv => arg 1; arg 1; arg 1; simp [loopAt, loopIn, headId, Try.f18, s4, s6]
    exact he _ H h0 h1 (by simpa using ho) (by simp [s1]) (by simp [s2])
  | succ m ih =>
    intro i H σ hm h0 h1 ho s1 s2 s4 s6 he
    have hi : i < n := by omega
    have hlt : decide (i < n) = true := dt hi
    have hlt' : decide ((i : Int) < (n : Int)) = true := dt (by omega)
    have hw : IntKind.i64.wrap ((i : Int) + 1) = ((i + 1 : Nat) : Int) := wr (by omega) (by omega)
    obtain ⟨hok, hmn⟩ := st_ok h i (by omega)
    have hS := rsteal_ok hok (by rw [hmn]; omega)
    have hst : stolen (st r i) = st r (i + 1) := rfl
    have hfi : firsts r (i + 1) = firsts r i ++ [item (st r i) 0] := by
      unfold firsts; rw [List.range_succ, List.map_append]; rfl
    have hfl : (firsts r i).length = i := by simp [firsts]
    rw [hst] at hS
    have hH2 : 1 < H.length := some_lt h1
    have gl : ∀ l, (H ++ l)[0]? = some ⟨0, 4, [encRing (st r i)], 0⟩ := fun l => by rw [get_lt (by omega), h0]
    have sl : ∀ l o, (H ++ l).set 0 o = H.set 0 o ++ l := fun l o => set_lt (by omega) o
    obtain ⟨x, hx⟩ : ∃ x, item (st r i) 0 = x := ⟨_, rfl⟩
    rw [hx] at hS hfi
    obtain ⟨Hx, hHx⟩ : ∃ Hx, H.set 0 ⟨0, 4, [encRing (st r (i + 1))], 0⟩ ++ [⟨0, 4, [encRing (st r (i + 1))], 0⟩, ⟨0, 2, [encRef x], 0⟩] = Hx := ⟨_, rfl⟩
    have ho2 : OutI Hx (σ 5) (firsts r i) := ho.mono fun k o hk hg => by
      rw [← hHx, get_lt (by rw [List.length_set]; exact some_lt hg), List.getElem?_set_ne (by omega), hg]
    have hx0 : Hx[0]? = some ⟨0, 4, [encRing (st r (i + 1))], 0⟩ := by rw [← hHx, get_lt (by simp; omega), List.getElem?_set_self (by omega)]
    have hx1 : Hx[1]? = some o1 := by rw [← hHx, get_lt (by simp; omega), List.getElem?_set_ne (by omega), h1]
    have hxr : Hx[H.length + 1]? = some ⟨0, 2, [encRef x], 0⟩ := by rw [← hHx, show H.length = (H.set 0 ⟨0, 4, [encRing (st r (i + 1))], 0⟩).length by simp, get_app rfl]; rfl
    have hel := ho2.els
    obtain ⟨d', H', hA, hO, g0, g1, g2⟩ := ho2.app x (by rw [hfl]; omega) (by have := some_lt hx1; omega)
    rw [← hfi] at hO
    rw [hx0] at g0; rw [hx1] at g1
    have ih' := fun (σ2 : Nat → D) a b c d e => ih (i + 1) H' σ2 (by omega) g0 g1 a b c d e he
    generalize hs5 : σ 5 = d5 at *
    generalize st r (i + 1) = r2 at *
    generalize st r i = r1 at *
    generalize (firsts r i).map encRef = fr at *
    rw [Wloop]
    conv => arg 1; arg 1; arg 1; simp [loopAt, loopIn, headId, Try.f18, s1, s4, s6, hs5, hlt, h0, hS, retK_some, get_app, get_app0, set_app, set_app0, gl, sl, hHx, hxr, hel, hA, hw, -getElem?_pos]
    rw [Option.bind_some, loopK_normal]
    exact ih' _ (by simpa using hO) (by simp [s1]) (by simp [s2]) (by simp [s4]) (by simp)
theorem rhalf_ok {r : Ring} (h : Ok r) : fnc Try.prog cfg R 18 [encRing r] = some (.tup [encRing (st r (upper r)), encS (some (firsts r (upper r)))]) := by
  have q1 := h.h1; have q2 := h.h2; have q3 := h.h3; have q6 := h.h6; have q7 := h.h7
  have hI := ritems_ok h
  have hil := items_len h
  obtain ⟨n, hn⟩ : ∃ n, upper r = n := ⟨_, rfl⟩
  have hn' : (n : Int) = (((items r).length : Int) + 1) / 2 := by rw [← hn, hil]; unfold upper; omega
  have hw : IntKind.i64.wrap (((items r).length : Int) + 1) = ((items r).length : Int) + 1 := wr (by omega) (by omega)
  have hq : (((items r).length : Int) + 1).tdiv 2 = n := by rw [Int.tdiv_eq_ediv_of_nonneg (by omega), hn']
  have hw2 : IntKind.i64.wrap (n : Int) = (n : Int) := wr (by omega) (by omega)
  have hnm : (n : Int) ≤ r.many := by omega
  rw [hn]
  replace hI : fnc Try.prog cfg R 24 [.agg [encS r.buf, I r.head, I r.many, I r.most]] = some (encS (some (items r))) := hI
  generalize hits : items r = its at *
  rw [fnc_eq cfg_ext, body_eq Try.func18 rfl rfl]
  simp [argsσ, hI, retK_some, hw, bin_quo, hq, hw2, Option.bind_assoc]
  refine rhalf_loop r h n hnm _ _ (fun o => o = some _) n 0 _ _ (by omega) rfl rfl (.inl ⟨rfl, by simp⟩) (by simp) (by simp) (by simp) (by simp) ?_
  intro σ' H' h0 h1 ho t1 t2
  have hH2 : 1 < H'.length := some_lt h1
  have hE : ∀ o, exp1 (H'.set 1 o) (σ' 5) = some (encS (some (firsts r n))) := fun o => (ho.mono fun k o' hk hg => by rw [List.getElem?_set_ne (by omega), hg]).exp
  have hs1 : ∀ o, (H'.set 1 o)[1]? = some o := fun o => List.getElem?_set_self hH2
  have hs0 : ∀ o, (H'.set 1 o)[0]? = some ⟨0, 4, [encRing (st r n)], 0⟩ := fun o => by rw [List.getElem?_set_ne (by omega), h0]
  generalize hs5 : σ' 5 = d5 at *
  generalize st r n = r1 at *
  simp [t1, t2, hs5, h0, h1, hE, hs1, hs0, Vm.results, -getElem?_pos]
end Go.Proofs.YtclfpfdpaigdiaaW.Rg
