/- The document's walk through a function's places. No conditions. -/
import Derived.Test.YtghidjgejmmcmaaVmA4
set_option linter.unusedVariables false
set_option linter.unusedSimpArgs false
namespace Go.Proofs.YtghidjgejmmcmaaW.Rg
open Go.Proofs.YtghidjgejmmcmaaW.Vm Go.Proofs.YtghidjgejmmcmaaW.Md
open Go Go.Proofs
/-- the objects of the walk -/
@[reducible] def rH (f : Fu) (ds : List Int) (dn : List Bool) : List Ob := [⟨0, 4, [encFunc f], 0⟩, ⟨0, 1, ds.map I, 0⟩, ⟨0, 1, dn.map D.bool, 0⟩]
theorem rinit_loop (f : Fu) (n : Nat) (hn : n < 2 ^ 62) (dn : List Bool) (p : D) {X : Type} (K : Ex × St → Option X) (Q : Option X → Prop) : ∀ (m i : Nat) (ds : List Int) (σ : Nat → D), i + m = n → 1 ≤ i → ds.length = n → (∀ j, j < n → ds.getD j 0 = if j = 0 then 0 else if j < i then -1 else 0) →
    σ 0 = p → σ 3 = .ptr 0 0 0 0 → σ 7 = .own 1 1 0 0 n → σ 8 = .own 1 2 0 0 n → σ 9 = I i →
    (∀ σ', σ' 0 = p → σ' 3 = .ptr 0 0 0 0 → σ' 7 = .own 1 1 0 0 n → σ' 8 = .own 1 2 0 0 n → Q (K (.exit 0, ⟨σ', rH f ((List.replicate n (-1 : Int)).set 0 0) dn, 106⟩))) →
    Q ((W Try.prog cfg (.loop (loopAt Try.f27 4)) ⟨σ, rH f ds dn, 106⟩).bind K)
  | 0, i, ds, σ, hm, h1, hl, hd, s0, s3, s7, s8, s9, hK => by
    have hi : ¬ (i < n) := by omega
    have e : ds = (List.replicate n (-1 : Int)).set 0 0 := by
      apply List.ext_getElem?
      intro j
      by_cases hj : j < n
      · have h2 := hd j hj
        have g : ds[j]? = some ds[j] := List.getElem?_eq_getElem (by omega)
        rw [List.getD_eq_getElem?_getD, g] at h2
        rw [g, List.getElem?_set, List.getElem?_replicate]
        simp at h2
        by_cases h0 : j = 0
        · subst h0; simp [h2]; omega
        · rw [if_neg (Ne.symm h0), if_pos hj, h2, if_neg h0, if_pos (by omega)]
      · rw [List.getElem?_eq_none (by omega), List.getElem?_eq_none (by simp; omega)]
    rw [Wloop]
    conv => arg 1; arg 1; arg 1; simp [loopAt, loopIn, headId, Try.f27, s7, s9, hi]
    rw [← e] at hK
    exact hK _ (by simp [s0]) (by simp [s3]) (by simp [s7]) (by simp [s8])
  | m + 1, i, ds, σ, hm, h1, hl, hd, s0, s3, s7, s8, s9, hK => by
    have hi : i < n := by omega
    have hlt : decide (i < n) = true := dt hi
    have hx := idxD_nat .i64 hi
    have hw : IntKind.i64.wrap ((i : Int) + 1) = ((i + 1 : Nat) : Int) := wr (by omega) (by omega)
    have hg : ds[i]? = some ds[i] := List.getElem?_eq_getElem (by omega)
    rw [Wloop]
    conv => arg 1; arg 1; arg 1; simp [loopAt, loopIn, headId, Try.f27, s7, s9, hlt, hx, hw, hg]
    rw [Option.bind_some, loopK_normal]
    rw [← List.map_set (f := I)]
    exact rinit_loop f n hn dn p K Q m (i + 1) (ds.set i (-1)) _ (by omega) (by omega) (by simpa using hl) (fun j hj => by
      rw [getD_set]
      by_cases hji : j = i
      · rw [if_pos ⟨hji, by omega⟩, if_neg (by omega), if_pos (by omega)]
      · rw [if_neg (fun h => hji h.1), hd j hj]
        by_cases h0 : j = 0
        · rw [if_pos h0, if_pos h0]
        · rw [if_neg h0, if_neg h0]
          by_cases h2 : j < i
          · rw [if_pos h2, if_pos (by omega)]
          · rw [if_neg h2, if_neg (by omega)]) (by simp [s0]) (by simp [s3]) (by simp [s7]) (by simp [s8]) (by simp) hK
/-- the places that follow are told -/
theorem rlay_loop (f : Fu) (n : Nat) (hn : n = f.c.length) (h200 : n ≤ 200) (dn : List Bool) (l : Option (List Int)) (b : Int) (hb : 0 ≤ b ∧ b ≤ 16) (at_ : Int) (p : D) {X : Type} (K : Ex × St → Option X) (Q : Option X → Prop) : ∀ (ts : List Nat) (j : Nat) (ds : List Int) (σ : Nat → D), (l.getD []).drop j = ts.map (fun (t : Nat) => (t : Int)) → ds.length = n → (∀ i, ds.getD i (-1) = -1 ∨ 0 ≤ ds.getD i (-1)) →
    (l.getD []).length ≤ 2 → σ 0 = p → σ 3 = .ptr 0 0 0 0 → σ 7 = .own 1 1 0 0 n → σ 8 = .own 1 2 0 0 n → σ 10 = I at_ → σ 11 = I b → σ 12 = encL 1 I l → σ 13 = I j →
    (∀ σ' ds' e, lay n b ts ds = .inl e → ds'.length = n → σ' 4 = .own 1 1 0 0 n → σ' 5 = I at_ → σ' 6 = I e → Q (K (.ret, ⟨σ', rH f ds' dn, 106⟩))) →
    (∀ σ' ds', lay n b ts ds = .inr ds' → σ' 0 = p → σ' 3 = .ptr 0 0 0 0 → σ' 7 = .own 1 1 0 0 n → σ' 8 = .own 1 2 0 0 n → Q (K (.exit 4, ⟨σ', rH f ds' dn, 106⟩))) →
    Q ((W Try.prog cfg (.loop (loopAt Try.f27 16)) ⟨σ, rH f ds dn, 106⟩).bind K)
  | [], j, ds, σ, hd, hl, hr, hl2, s0, s3, s7, s8, s10, s11, s12, s13, hr1, he => by
    have hj : ¬ (j < (l.getD []).length) := by have := congrArg List.length hd; simp at this; omega
    rw [Wloop]
    conv => arg 1; arg 1; arg 1; simp [loopAt, loopIn, headId, Try.f27, s12, s13, hj]
    exact he _ ds rfl (by simp [s0]) (by simp [s3]) (by simp [s7]) (by simp [s8])
  | t :: ts, j, ds, σ, hd, hl, hr, hl2, s0, s3, s7, s8, s10, s11, s12, s13, hr1, he => by
    rw [List.map_cons] at hd
    obtain ⟨hg1, hd1, hj⟩ := drop_get hd
    have hlt : decide (j < (l.getD []).length) = true := dt hj
    have hx := idxD_nat .i64 hj
    have hw : IntKind.i64.wrap ((j : Int) + 1) = ((j + 1 : Nat) : Int) := wr (by omega) (by omega)
    have hcl : (f.code.getD []).length = n := hn.symm
    have hdr := dr27_18
    simp [opsAt, opsIn, Try.f27] at hdr
    have hdw := Wdraw0 hdr
    clear hdr
    unfold lay at hr1 he
    cases c1 : decide (n ≤ t)
    case true =>
      have h1 := of_decide_eq_true c1
      rw [if_pos h1] at hr1
      rw [Wloop]
      conv => arg 1; arg 1; arg 1; simp [loopAt, loopIn, headId, Try.f27, s3, s7, s10, s12, s13, hlt, hx, hg1, hdw, hcl, c1]
      exact hr1 _ ds _ rfl hl (by simp) (by simp) (by simp)
    have h1 := of_decide_eq_false c1
    rw [if_neg h1] at hr1 he
    have ht : t < n := by omega
    have hx2 := idxD_nat .i64 ht
    have hgt : ds[t]? = some ds[t] := List.getElem?_eq_getElem (by omega)
    have e1 : ds.getD t (-1) = ds[t] := by simp [List.getD_eq_getElem?_getD, hgt]
    have h0 := hr t
    rw [e1] at h0 hr1 he
    have hset : ∀ v, ds[t] = v → ds.set t v = ds := fun v hv => by rw [← hv]; exact List.set_getElem_self _
    generalize ds[t] = d at *
    cases c2 : decide (0 ≤ d)
    · have hdm : d = -1 := by have := of_decide_eq_false c2; omega
      rw [if_pos hdm] at hr1 he
      rw [Wloop]
      conv => arg 1; arg 1; arg 1; simp [loopAt, loopIn, headId, Try.f27, s3, s7, s10, s11, s12, s13, hlt, hx, hx2, hg1, hgt, hdw, hcl, c1, c2, hw]
      rw [Option.bind_some, loopK_normal]
      rw [← List.map_set (f := I)]
      exact rlay_loop f n hn h200 dn l b hb at_ p K Q ts (j + 1) (ds.set t b) _ hd1 (by simpa using hl) (fun i => by
        rw [getD_set]; split
        · right; omega
        · exact hr i) hl2 (by simp [s0]) (by simp [s3]) (by simp [s7]) (by simp [s8]) (by simp [s10]) (by simp [s11]) (by simp [s12]) (by simp) hr1 he
    · have hdm : d ≠ -1 := by have := of_decide_eq_true c2; omega
      rw [if_neg hdm] at hr1 he
      cases c3 : decide (d = b)
      · rw [if_pos (of_decide_eq_false c3)] at hr1
        rw [Wloop]
        conv => arg 1; arg 1; arg 1; simp [loopAt, loopIn, headId, Try.f27, s3, s7, s10, s11, s12, s13, hlt, hx, hx2, hg1, hgt, hdw, hcl, c1, c2, c3]
        exact hr1 _ ds _ rfl hl (by simp) (by simp) (by simp)
      · have hdb := of_decide_eq_true c3
        rw [if_neg (by simpa using hdb)] at hr1 he
        rw [Wloop]
        conv => arg 1; arg 1; arg 1; simp [loopAt, loopIn, headId, Try.f27, s3, s7, s10, s11, s12, s13, hlt, hx, hx2, hg1, hgt, hdw, hcl, c1, c2, c3, hw]
        rw [Option.bind_some, loopK_normal, ← List.map_set (f := I), hset b hdb]
        exact rlay_loop f n hn h200 dn l b hb at_ p K Q ts (j + 1) ds _ hd1 hl hr hl2 (by simp [s0]) (by simp [s3]) (by simp [s7]) (by simp [s8]) (by simp [s10]) (by simp [s11]) (by simp [s12]) (by simp) hr1 he
theorem count_set {l : List Bool} : ∀ {i : Nat}, i < l.length → l.getD i true = false → ((l.set i true).filter (!·)).length + 1 = (l.filter (!·)).length := by
  induction l with
  | nil => intro i h; simp at h
  | cons b l ih =>
    intro i h1 h2
    cases i with
    | zero => simp at h2; subst h2; simp
    | succ i =>
      have := ih (i := i) (by simpa using h1) (by simpa using h2)
      cases b <;> simp <;> omega
theorem nx_len (x : Instr) (i : Nat) : (nextO x i).getD [] = [] ∨ ((nextO x i).getD []).length ≤ 2 := by
  right; unfold nextO; (repeat' split) <;> simp
theorem rmain_loop (p : Option (List Fu)) (f : Fu) (hs : Safe (p.getD []) f.c) (n : Nat) (hn : n = f.c.length) {X : Type} (K : Ex × St → Option X) (Q : Option X → Prop) : ∀ (k : Nat) (ds : List Int) (dn : List Bool) (σ : Nat → D), Inv (shapes (p.getD []) f.c) ds dn → (dn.filter (!·)).length < k →
    σ 0 = encProg p → σ 3 = .ptr 0 0 0 0 → σ 7 = .own 1 1 0 0 n → σ 8 = .own 1 2 0 0 n →
    (∀ σ' ds' dn' a e, reachN (shapes (p.getD []) f.c) k ds dn = .inl (a, e) → ds'.length = n → σ' 4 = .own 1 1 0 0 n → σ' 5 = I a → σ' 6 = I e → Q (K (.ret, ⟨σ', rH f ds' dn', 106⟩))) →
    (∀ σ' ds' dn', reachN (shapes (p.getD []) f.c) k ds dn = .inr ds' → ds'.length = n → σ' 4 = .own 1 1 0 0 n → σ' 5 = I 0 → σ' 6 = I 0 → Q (K (.ret, ⟨σ', rH f ds' dn', 106⟩))) →
    Q ((W Try.prog cfg (.loop (loopAt Try.f27 7)) ⟨σ, rH f ds dn, 106⟩).bind K)
  | 0, ds, dn, σ, I0, hk, _, _, _, _, _, _ => by omega
  | k + 1, ds, dn, σ, I0, hk, s0, s3, s7, s8, hr1, he => by
    have hsl := shapes_len (p.getD []) f.c
    have hdl : ds.length = n := by rw [I0.len, hsl, hn]
    have hdn : dn.length = n := by rw [I0.dlen, hsl, hn]
    have h200 := hs.len
    have hO := open_spec ds dn (by omega) (by omega) (fun i => by rcases I0.rng i with h | h <;> omega)
    have take1 : ((ds.map I).take n) = ds.map I := List.take_of_length_le (by simp; omega)
    have take2 : ((dn.map D.bool).take n) = dn.map D.bool := List.take_of_length_le (by simp; omega)
    have cl1 : cleans (ds.map I) = true := cl_ints ds
    have cl2 : cleans (dn.map D.bool) = true := cl_bools dn
    unfold reachN at hr1 he
    unfold leastI at hO
    cases hle : least ds dn with
    | none =>
      rw [hle] at hO hr1 he
      rw [Wloop]
      conv => arg 1; arg 1; arg 1; simp [loopAt, loopIn, headId, Try.f27, s7, s8, exp_own, elsOf_own, hdl, hdn, take1, take2, cl1, cl2, hO, retK_flat]
      exact he _ ds dn rfl hdl (by simp) (by simp) (by simp)
    | some at_ =>
      rw [hle] at hO hr1 he
      obtain ⟨_, ha2, ha3, ha4⟩ := leastF_some hle
      have hat : at_ < n := by omega
      have hg : f.c[at_]? = some f.c[at_] := List.getElem?_eq_getElem (by omega)
      have hxm : f.c[at_] ∈ f.c := List.getElem_mem _
      have hx := idxD_nat .i64 hat
      have hx' : idxD (f.code.getD []).length (D.int .i64 (at_ : Int)) = some at_ := idxD_nat .i64 (by show at_ < f.c.length; omega)
      have hgd : ds[at_]? = some ds[at_] := List.getElem?_eq_getElem (by omega)
      have e1 : ds.getD at_ (-1) = ds[at_] := by simp [List.getD_eq_getElem?_getD, hgd]
      have hgn : dn[at_]? = some dn[at_] := List.getElem?_eq_getElem (by omega)
      have hrg := I0.rng at_
      rw [e1] at hrg ha3
      have hsh : (shapes (p.getD []) f.c)[at_]? = some ⟨offP (p.getD []) f.c[at_], on6 f.c[at_].op, nextP f.c[at_] at_⟩ := by rw [shapes_get, hg]; rfl
      simp only [hsh, e1, hsl] at hr1 he
      have hg' : (f.code.getD [])[at_]? = some f.c[at_] := hg
      have hB := rbehind_spec p f.c hs f.c[at_] hxm ds[at_] (by omega)
      have hN := rnext_spec f.c[at_] at_ (by omega)
      have hnP := nextO_P f.c[at_] at_ (hs.a hxm).2.2.1
      have hnl : ((nextO f.c[at_] at_).getD []).length ≤ 2 := by rcases nx_len f.c[at_] at_ with h | h; rw [h]; simp; exact h
      have hof := hs.off hxm
      have hon := on6_le f.c[at_].op
      generalize hy : f.c[at_] = y at *
      generalize hz : ds[at_] = d at *
      have hdr := dr27_11
      simp [opsAt, opsIn, Try.f27] at hdr
      have hdw := Wdraw0 hdr
      clear hdr
      have hneg : decide ((at_ : Int) < 0) = false := df (by omega)
      have hset : (dn.map D.bool).set at_ (.bool true) = (dn.set at_ true).map D.bool := by rw [List.map_set]
      by_cases hok : d < offP (p.getD []) y ∨ 16 < d - offP (p.getD []) y + on6 y.op
      · rw [if_pos hok] at hB hr1 he
        rw [Wloop]
        conv => arg 1; arg 1; arg 1; simp [loopAt, loopIn, headId, Try.f27, s0, s3, s7, s8, exp_own, elsOf_own, hdl, hdn, take1, take2, cl1, cl2, hO, retK_flat, hneg, hx, hx', hgd, hgn, hg', hdw, hB]
        rw [hset]
        exact hr1 _ ds _ _ _ rfl hdl (by simp) (by simp) (by simp)
      · rw [if_neg hok] at hB hr1 he
        have hb0 : decide (d - offP (p.getD []) y + on6 y.op < 0) = false := df (by omega)
        have hb : 0 ≤ d - offP (p.getD []) y + on6 y.op ∧ d - offP (p.getD []) y + on6 y.op ≤ 16 := by omega
        have Istep := fun r => I0.step (r := r) (shapes_on (p.getD []) f.c) hle hsh
        simp only [e1, hsl] at Istep
        generalize d - offP (p.getD []) y + on6 y.op = b at *
        rw [Wloop]
        conv => arg 1; arg 1; arg 1; simp [loopAt, loopIn, headId, Try.f27, s0, s3, s7, s8, exp_own, elsOf_own, hdl, hdn, take1, take2, cl1, cl2, hO, retK_flat, hneg, hx, hx', hgd, hgn, hg', hdw, hB, hb0, hN]
        rw [hset]
        simp only [Option.bind_assoc]
        refine rlay_loop f n hn (by omega) (dn.set at_ true) (nextO y at_) b hb at_ (encProg p) _ Q (nextP y at_) 0 ds _ (by simpa using hnP) hdl (fun i => by rcases I0.rng i with h | h <;> omega) hnl (by simp [s0]) (by simp [s3]) (by simp [s7]) (by simp [s8]) (by simp) (by simp) (by simp) (by simp) ?_ ?_
        · intro σ' ds' e hl h1 h2 h3 h4
          rw [← hn, hl] at hr1
          simp
          exact hr1 σ' ds' _ _ _ rfl h1 h2 h3 h4
        · intro σ' ds' hl t0 t3 t7 t8
          rw [← hn, hl] at hr1 he
          simp
          refine rmain_loop p f hs n hn K Q k ds' (dn.set at_ true) σ' (Istep ds' hok (by rw [← hn]; exact hl)) ?_ t0 t3 t7 t8 hr1 he
          have := count_set (l := dn) (i := at_) (by omega) ha4
          omega
theorem rreach_spec (p : Option (List Fu)) (f : Fu) (hs : Safe (p.getD []) f.c) (h1 : 1 ≤ f.c.length) :
    match reach (shapes (p.getD []) f.c) with
    | .inl (a, e) => ∃ ds : List Int, fnc Try.prog cfg R 27 [encProg p, encFunc f] = some (.tup [.sl 1 (ds.map I) false, I a, I e])
    | .inr ds => fnc Try.prog cfg R 27 [encProg p, encFunc f] = some (.tup [.sl 1 (ds.map I) false, I 0, I 0]) := by
  have h200 := hs.len
  have hsl := shapes_len (p.getD []) f.c
  have hmk := fun (hp : List Ob) => mk_slice (P := Try.prog) el43 sz3 by3 ze3 (by simp) (by decide) (by decide) hp .i64 .i64 f.c.length f.c.length (by omega) (by omega) (by omega)
  have hmk2 := fun (hp : List Ob) => mk_slice (P := Try.prog) el98 sz4 by4 ze4 (by simp) (by decide) (by decide) hp .i64 .i64 f.c.length f.c.length (by omega) (by omega) (by omega)
  simp only [Int.toNat_natCast] at hmk hmk2
  have hcl : (f.code.getD []).length = f.c.length := rfl
  have r1 : List.replicate f.c.length (D.int .i64 0) = (List.replicate f.c.length (0 : Int)).map I := by simp
  have r2 : List.replicate f.c.length (D.bool false) = (List.replicate f.c.length false).map D.bool := by simp
  rw [r1] at hmk
  rw [r2] at hmk2
  rw [fnc_at rfl, body_eq Try.func27 rfl rfl]
  have main : ∀ (Q : Option D → Prop), (∀ (ds' : List Int) a e, reach (shapes (p.getD []) f.c) = .inl (a, e) → Q (some (.tup [.sl 1 (ds'.map I) false, I a, I e]))) → (∀ (ds' : List Int), reach (shapes (p.getD []) f.c) = .inr ds' → Q (some (.tup [.sl 1 (ds'.map I) false, I 0, I 0]))) →
      Q (((R (Try.f27.body.getD .skip) ⟨argsσ [encProg p, encFunc f], [], 106⟩).bind (endK Try.prog Try.f27)).bind finK) := by
    intro Q q1 q2
    simp [argsσ, Try.f27, hcl, hmk, hmk2, Option.bind_assoc, -List.map_replicate]
    refine rinit_loop f f.c.length (by omega) _ (encProg p) _ Q (f.c.length - 1) 1 (List.replicate f.c.length 0) _ (by omega) (Nat.le_refl _) (by simp) (fun j hj => by simp [List.getD_eq_getElem?_getD, List.getElem?_replicate, hj]) (by simp [argsσ]) (by simp) (by simp) (by simp) (by simp) ?_
    intro σ' t0 t3 t7 t8
    simp only [blockK_exit, if_true, Option.bind_some, seqK_normal, Wblock, Option.bind_assoc]
    refine rmain_loop p f hs f.c.length rfl _ Q (f.c.length + 1) _ _ σ' ?_ ?_ t0 t3 t7 t8 ?_ ?_
    · have := Inv.init (sh := shapes (p.getD []) f.c) (by omega); rw [hsl] at this; exact this
    · simp
    · intro σ2 ds' dn' a e hr hl u4 u5 u6
      have hr' : reach (shapes (p.getD []) f.c) = .inl (a, e) := by unfold reach; rw [hsl]; exact hr
      have take1 : ((ds'.map I).take f.c.length) = ds'.map I := List.take_of_length_le (by simp; omega)
      simp [u4, u5, u6, Vm.results, exp_own, elsOf_own, hl, take1, cl_ints]
      exact q1 ds' a e hr'
    · intro σ2 ds' dn' hr hl u4 u5 u6
      have hr' : reach (shapes (p.getD []) f.c) = .inr ds' := by unfold reach; rw [hsl]; exact hr
      have take1 : ((ds'.map I).take f.c.length) = ds'.map I := List.take_of_length_le (by simp; omega)
      simp [u4, u5, u6, Vm.results, exp_own, elsOf_own, hl, take1, cl_ints]
      exact q2 ds' hr'
  cases hR : reach (shapes (p.getD []) f.c) with
  | inl r =>
    obtain ⟨a, e⟩ := r
    exact main (fun o => ∃ ds : List Int, o = some (.tup [.sl 1 (ds.map I) false, I a, I e])) (fun ds' a' e' h => by rw [hR] at h; cases h; exact ⟨ds', rfl⟩) (fun ds' h => by rw [hR] at h; cases h)
  | inr ds => exact main (fun o => o = some (.tup [.sl 1 (ds.map I) false, I 0, I 0])) (fun ds' a' e' h => by rw [hR] at h; cases h) (fun ds' h => by rw [hR] at h; cases h; rfl)
end Go.Proofs.YtghidjgejmmcmaaW.Rg
