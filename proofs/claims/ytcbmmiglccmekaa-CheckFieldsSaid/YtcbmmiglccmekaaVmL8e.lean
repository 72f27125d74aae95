/- An instruction behind a function's last one is never reached. No conditions. -/
import Derived.Test.YtcbmmiglccmekaaVmL8d
set_option linter.unusedVariables false
set_option linter.unusedSimpArgs false
namespace Go.Proofs.YtcbmmiglccmekaaW.Rg
open Go.Proofs.YtcbmmiglccmekaaW.Vm Go.Proofs.YtcbmmiglccmekaaW.Md
open Go Go.Proofs
theorem lz_funcs : ∀ l : List Fu, lzs (l.map encFunc) = true
  | [] => rfl
  | x :: l => by simp [lz_funcs l]
theorem expsG_set {inner : List D → Option (List D)} {h : List Ob} {d d' : D} (he : expG inner h d = some d') : ∀ (l : List Fu) (k : Nat), k < l.length → expsG inner h ((l.map encFunc).set k d) = some ((l.map encFunc).set k d')
  | [], k, hk => by simp at hk
  | x :: l, 0, hk => by
    simp only [List.map_cons, List.set_cons_zero, expsG, he, expsG_clean (cl_funcs l) (lz_funcs l)]
  | x :: l, k + 1, hk => by
    simp only [List.map_cons, List.set_cons_succ, expsG]
    rw [expsG_set he l k (by simpa using hk), expG_clean (by simp) (by simp)]
theorem clean_set (d : D) : ∀ (l : List Fu) (k : Nat), k < l.length → cleans ((l.map encFunc).set k d) = clean d
  | [], k, hk => by simp at hk
  | x :: l, 0, hk => by
    simp only [List.map_cons, List.set_cons_zero, cleans, cl_funcs l, Bool.and_true]
  | x :: l, k + 1, hk => by
    simp only [List.map_cons, List.set_cons_succ, cleans]
    rw [clean_set d l k (by simpa using hk)]
    simp
theorem exp_prog2 {H : List Ob} {i0 v0 z0 id ver z k n m : Nat} {l : List Fu} {a b c : Int} {code : List Instr} (h0 : H[i0]? = some ⟨v0, 4, (l.map encFunc).set k (.agg [I a, I b, I c, .own 3 id ver 0 m]), z0⟩) (h1 : H[id]? = some ⟨ver, 3, code.map encInstr, z⟩)
    (hk : k < l.length) (hn : n = l.length) (hm : m = code.length) : exp1 H (.own 4 i0 v0 0 n) = some (encL 4 encFunc (some (l.set k ⟨a, b, c, some code⟩))) := by
  subst hn; subst hm
  have e1 : expG (expI 1 H) H (.agg [I a, I b, I c, .own 3 id ver 0 code.length]) = some (encFunc ⟨a, b, c, some code⟩) := by
    have hx : elsOf H (.own 3 id ver 0 code.length) = some (code.map encInstr) := by
      rw [elsOf_own, h1, Option.bind_some, if_pos ⟨rfl, rfl, by simp⟩, List.drop_zero, List.take_of_length_le (by simp)]
    simp [expG, expsG, hx, expI_clean (cl_instrs code), encL]
  rw [exp_own, elsOf_own, h0, Option.bind_some, if_pos ⟨rfl, rfl, by simp⟩, List.drop_zero, List.take_of_length_le (by simp), Option.bind_some]
  have e2 : (l.map encFunc).set k (encFunc ⟨a, b, c, some code⟩) = (l.set k ⟨a, b, c, some code⟩).map encFunc := by rw [List.map_set]
  have hcl : cleans ((l.map encFunc).set k (.agg [I a, I b, I c, .own 3 id ver 0 code.length])) = false := by rw [clean_set _ _ _ hk]; simp [clean, cleans]
  unfold ownK expI
  rw [if_neg (by simp [hcl]), expsG_set e1 l k hk, e2]
  simp only [cl_funcs, if_true]
  rfl
theorem exp_ints {H : List Ob} {id ver z : Nat} {l : List Int} {n : Nat} (h : H[id]? = some ⟨ver, 1, l.map I, z⟩) (hn : n = l.length) : exp1 H (.own 1 id ver 0 n) = some (.sl 1 (l.map I) false) := by
  subst hn
  rw [exp_own, elsOf_own, h, Option.bind_some, if_pos ⟨rfl, rfl, by simp⟩, List.drop_zero, List.take_of_length_le (by simp), Option.bind_some, ownK_clean _ _ _ (cl_ints l)]
theorem ret_any (h : List Ob) (av : List D) (r : D) : ∃ H', retK cfg h av r = some (r, H') := by
  unfold retK
  split
  · exact ⟨_, rfl⟩
  · rw [if_neg (by simp [nomark0])]; exact ⟨_, rfl⟩
theorem tail8_law (p : Option (List Fu)) (hb : Bnd (p.getD [])) (fn : Int) : fnc Try.prog cfg R 8 [encProg p, I fn] = some (.bool true) := by
  rw [fnc_at rfl, body_eq Try.func8 rfl rfl]
  have hS := small_spec p 300
  have hG := rgood_spec p hb
  have hlen := hb.len
  cases hs : small (p.getD []) 300 with
  | false => rw [hs] at hS; simp [argsσ, Vm.results, hS, fixed8]
  | true =>
  rw [hs] at hS
  cases hg : good (p.getD []) with
  | false => rw [hg] at hG; simp [argsσ, Vm.results, hS, hG, fixed8]
  | true =>
  rw [hg] at hG
  cases k1 : decide (fn < 0)
  case true => simp [argsσ, Vm.results, hS, hG, fixed8, k1]
  cases k2 : decide (((p.getD []).length : Int) ≤ fn)
  case true => simp [argsσ, Vm.results, hS, hG, fixed8, k1, k2]
  have m1 := of_decide_eq_false k1; have m2 := of_decide_eq_false k2
  obtain ⟨n, rfl⟩ : ∃ n : Nat, fn = n := ⟨fn.toNat, by omega⟩
  have k2' : decide ((p.getD []).length ≤ n) = false := df (by omega)
  have hn : n < (p.getD []).length := by omega
  obtain ⟨lp, rfl⟩ : ∃ lp, p = some lp := by cases p with | none => simp at hn | some lp => exact ⟨lp, rfl⟩
  obtain ⟨f, hf⟩ : ∃ f, lp[n]? = some f := ⟨_, List.getElem?_eq_getElem hn⟩
  have hx := idxD_nat .i64 hn
  simp only [Option.getD_some] at *
  have hfm := List.mem_of_getElem? hf
  have gm := (good_iff.1 hg).1
  have hfl := fmay_len (mayP_f gm hfm)
  have hp16 : lp.length ≤ 16 := by unfold mayP at gm; simp at gm; omega
  obtain ⟨a, b, c, code⟩ := f
  have hcc : (Fu.c ⟨a, b, c, code⟩) = code.getD [] := rfl
  rw [hcc] at hfl
  obtain ⟨cd, rfl⟩ : ∃ cd, code = some cd := by cases code with | none => simp at hfl | some cd => exact ⟨cd, rfl⟩
  simp only [Option.getD_some] at hfl
  cases k3 : decide ((200 : Int) ≤ (cd.length : Int))
  case true => simp [argsσ, Vm.results, hS, hG, fixed8, k1, k2, k2', hx, hf, k3]
  have m3 := of_decide_eq_false k3
  have k3' : decide (200 ≤ cd.length) = false := df (by omega)
  have ap1 : apK 48 4 [] (D.sl 4 [] true) [] (lp.map encFunc) = some (.own 4 0 0 0 lp.length, [⟨0, 4, lp.map encFunc, 0⟩]) := by
    rw [apK_ok (by simp only [List.length_nil, List.length_map]; omega), apN_sl' (by rw [List.length_map]; omega)]; simp [newOb]
  have ap2 : ∀ h : List Ob, apK 24 3 h (D.sl 3 [] true) [] (cd.map encInstr) = some (.own 3 h.length 0 0 cd.length, h ++ [⟨0, 3, cd.map encInstr, 0⟩]) := by
    intro h
    rw [apK_ok (by simp only [List.length_nil, List.length_map]; omega), apN_sl' (by rw [List.length_map]; omega)]; simp [newOb]
  have el3 : ∀ o1 o2 : Ob, elsZ [o1, o2, ⟨0, 3, cd.map encInstr, 0⟩] 3 (.own 3 2 0 0 cd.length) = some (cd.map encInstr) := by
    intro o1 o2
    simp [elsZ, elsOf_own, -List.map_take]; exact List.take_of_length_le (by simp)
  have ap3 : ∀ o1 o2 : Ob, apK 24 3 [o1, o2, ⟨0, 3, cd.map encInstr, 0⟩] (.own 3 2 0 0 cd.length) (cd.map encInstr) [.agg [I 3, I 0, I 0]] = some (.own 3 2 1 0 (cd.length + 1), [o1, o2, ⟨1, 3, (cd ++ [(⟨3, 0, 0⟩ : Instr)]).map encInstr, 0⟩]) := by
    intro o1 o2
    rw [apK_ok (by simp only [List.length_cons, List.length_nil, List.length_map]; omega), apN_own' (by simp)]; simp
  have hC := check_spec (some (lp.set n ⟨a, b, c, some (cd ++ [(⟨3, 0, 0⟩ : Instr)])⟩)) (by simp; omega)
  obtain ⟨t1, t2⟩ := tail_good hg hf (by show (cd.length < 200); omega) (f' := ⟨a, b, c, some (cd ++ [(⟨3, 0, 0⟩ : Instr)])⟩) rfl rfl rfl rfl
  have hC0 := good_check.1 t1
  simp only [Option.getD_some, hC0] at hC
  have d1 := depths_spec (some lp) (by simp; omega) n
  have d2 := depths_spec (some (lp.set n ⟨a, b, c, some (cd ++ [(⟨3, 0, 0⟩ : Instr)])⟩)) (by simp; omega) n
  simp only [Option.getD_some] at d1 d2
  rw [if_pos ⟨hg, by omega, by omega⟩, depths_good hg hf] at d1
  rw [if_pos ⟨t1, by omega, by simp; omega⟩, depths_good t1 (i := n) (by rw [List.getElem?_set_self hn]), t2] at d2
  have hE := exp_prog2 (H := [⟨0, 4, (lp.map encFunc).set n (.agg [I a, I b, I c, .own 3 2 1 0 (cd.length + 1)]), 0⟩, ⟨0, 4, [.agg [I a, I b, I c, .own 3 2 1 0 (cd.length + 1)]], 0⟩, ⟨1, 3, (cd ++ [(⟨3, 0, 0⟩ : Instr)]).map encInstr, 0⟩]) (i0 := 0) (v0 := 0) (z0 := 0) (id := 2) (ver := 1) (z := 0) (k := n) (n := lp.length) (m := cd.length + 1) (l := lp) (a := a) (b := b) (c := c) (code := cd ++ [⟨3, 0, 0⟩]) rfl rfl hn rfl (by simp)
  simp [argsσ, hS, hG, fixed8, k1, k2, k2', hx, hf, k3, k3', ap1, ap2, el3, ap3, -List.map_append, hC, hE, d1, d2, retK_flat, flat, flats]
  obtain ⟨H', hR⟩ := ret_any [⟨0, 4, (lp.map encFunc).set n (.agg [I a, I b, I c, .own 3 2 1 0 (cd.length + 1)]), 0⟩, ⟨0, 4, [.agg [I a, I b, I c, .own 3 2 1 0 (cd.length + 1)]], 0⟩, ⟨1, 3, (cd ++ [(⟨3, 0, 0⟩ : Instr)]).map encInstr, 0⟩] [.own 4 0 0 0 lp.length, I n] (encL 1 I (some (depthsOf lp ⟨a, b, c, some cd⟩ ++ [-1])))
  simp only [hR]
  have hdl : (depthsOf lp ⟨a, b, c, some cd⟩).length = cd.length := by rw [(good_fin hg hfm).2.len, shapes_len]; rfl
  generalize depthsOf lp ⟨a, b, c, some cd⟩ = ds at *
  have ap4 : apK 8 1 H' (D.sl 1 [] true) [] (ds.map I) = some (.own 1 H'.length 0 0 ds.length, H' ++ [⟨0, 1, ds.map I, 0⟩]) := by
    rw [apK_ok (by simp only [List.length_nil, List.length_map]; omega), apN_sl' (by rw [List.length_map]; omega)]; simp [newOb]
  have el5 : elsZ (H' ++ [⟨0, 1, ds.map I, 0⟩]) 1 (.own 1 H'.length 0 0 ds.length) = some (ds.map I) := by
    simp [elsZ, elsOf_own, -List.map_take]; exact List.take_of_length_le (by simp)
  have ap5 : apK 8 1 (H' ++ [⟨0, 1, ds.map I, 0⟩]) (.own 1 H'.length 0 0 ds.length) (ds.map I) [I (-1)] = some (.own 1 H'.length 1 0 (ds.length + 1), H' ++ [⟨1, 1, (ds ++ [-1]).map I, 0⟩]) := by
    rw [apK_ok (by simp only [List.length_cons, List.length_nil, List.length_map]; omega), apN_own' (by simp)]; simp
  have ex5 : exp1 (H' ++ [⟨1, 1, (ds ++ [-1]).map I, 0⟩]) (.own 1 H'.length 1 0 (ds.length + 1)) = some (.sl 1 ((ds ++ [-1]).map I) false) := by
    exact exp_ints (z := 0) (by simp [-List.map_append]) (by simp)
  have hI := ints_spec (some (ds ++ [-1])) (some (ds ++ [-1])) (by simp; omega)
  simp only [encL, Option.getD_some] at hI
  simp [-List.map_append, ap4, el5, ap5, ex5, hI, encL, retK_flat, Vm.results]
end Go.Proofs.YtcbmmiglccmekaaW.Rg
