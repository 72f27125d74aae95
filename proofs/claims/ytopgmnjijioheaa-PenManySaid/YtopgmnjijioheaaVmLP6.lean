/- PenMany. No conditions. -/
import Derived.Test.YtopgmnjijioheaaVmLP5
set_option linter.unusedVariables false
set_option linter.unusedSimpArgs false
namespace Go.Proofs.YtopgmnjijioheaaW.Rg
open Go.Proofs.YtopgmnjijioheaaW.Vm Go.Proofs.YtopgmnjijioheaaW.Md
open Go Go.Proofs
@[simp] theorem ixL_fx (b : Option (List Fx)) (i : D) : indexAddrD Try.prog 57 (encL 16 encX b) i = (idxD (b.getD []).length i).map fun i => .fptr 16 ((b.getD []).map encX) i 0 := ixL un57 sz35 b i
set_option maxRecDepth 100000 in
theorem dec_frames {k : Nat} {ds : List D} (h : HasT Try.prog (k + 7) 57 ds) : ∃ b : Option (List Fx), ds = [encL 16 encX b] ∧ (b.getD []).length < 2 ^ 62 ∧ ∀ x ∈ b.getD [], okX x := by
  have hml : maxLen = 2 ^ 63 - 1 := rfl
  have hb : Try.prog.bytesOf 35 = 176 := by kernel_rfl
  have hrb := reachBytes_lt
  unfold HasT at h; rw [un57] at h
  rcases h with rfl | ⟨ys, rfl, hl, hsz, hy⟩
  · exact ⟨none, rfl, by simp, by simp⟩
  · obtain ⟨rs, hrs, hp⟩ := dec_list encX (toD Try.prog 35) (HasT Try.prog (k + 6) 35) okX (fun y hy => dec_fx hy) ys hy
    have hlen := congrArg List.length hrs
    simp only [List.length_map] at hlen
    refine ⟨some rs, by rw [hrs]; rfl, ?_, hp⟩
    rw [Option.getD_some, ← hlen]; rw [hb] at hsz; omega
theorem toD_frames (b : Option (List Fx)) : toD Try.prog 57 [encL 16 encX b] = encL 16 encX b := by unfold toD; rw [un57]; rfl
theorem bp_pM {l : List Fx} (h : ∀ x ∈ l, okX x) {c : Nat} (hc : c ≤ 2 ^ 30) (m : Int) : Bp (pM l c m) := by
  refine ⟨by simp [pM]; omega, by simp [pM], fun d hd => ?_⟩
  obtain ⟨x, hx, rfl⟩ := List.mem_map.1 hd
  exact h x (List.mem_of_mem_take hx)
set_option maxHeartbeats 4000000 in
/-- all frames are laid -/
theorem many1 (b : Option (List Fx)) (hb : (b.getD []).length ≤ 20) (ok : ∀ x ∈ b.getD [], okX x) (m : Nat) (h1 : 1 ≤ m) (h2 : m ≤ 30) {X : Type} (K : Ex × St → Option X) (Q : Option X → Prop) : ∀ (rest : List Fx) (i : Nat) (σ : Nat → D) (H : List Ob) (L : D) (c : Option (List Ce)) (f : Option (List Int)), (b.getD []).drop i = rest → i ≤ (b.getD []).length →
    σ 0 = I m → σ 1 = encL 16 encX b → σ 5 = .ptr 0 0 0 0 → σ 7 = L → σ 8 = I i → H[0]? = some ⟨0, 3, [encP c f (pM (b.getD []) (min i m) m)], 0⟩ → Rp c f (pM (b.getD []) (min i m) m) → IsS H 2 ((refsM (min i m)).map encRf) L → (∀ j, At L j → 1 ≤ j) →
    (∀ σ' H' L' c' f', σ' 0 = I m → σ' 1 = encL 16 encX b → σ' 5 = .ptr 0 0 0 0 → σ' 7 = L' → H'[0]? = some ⟨0, 3, [encP c' f' (pM (b.getD []) (min (b.getD []).length m) m)], 0⟩ → Rp c' f' (pM (b.getD []) (min (b.getD []).length m) m) → IsS H' 2 ((refsM (min (b.getD []).length m)).map encRf) L' → (∀ j, At L' j → 1 ≤ j) → Q (K (.exit 0, ⟨σ', H', 163⟩))) →
    (∀ σ' H', σ' 4 = .bool true → Q (K (.ret, ⟨σ', H', 163⟩))) →
    Q ((W Try.prog cfg (.loop (loopAt Try.f6 6)) ⟨σ, H, 163⟩).bind K)
  | [], i, σ, H, L, c, f, hd, hil, s0, s1, s5, s7, s8, g0, rp, iL, aL, hK, hR => by
    have hge : (b.getD []).length = i := by have := congrArg List.length hd; simp at this; omega
    have hi : decide (i < (b.getD []).length) = false := df (by omega)
    rw [hge] at hK
    rw [Wloop]
    conv => arg 1; arg 1; arg 1; simp [loopAt, loopIn, headId, Try.f6, s1, s8, hi]
    exact hK _ H L c f (by simp [s0]) (by simp [s1]) (by simp [s5]) (by simp [s7]) g0 rp iL aL
  | x :: rest, i, σ, H, L, c, f, hd, hil, s0, s1, s5, s7, s8, g0, rp, iL, aL, hK, hR => by
    obtain ⟨hg1, hd1, hi⟩ := drop_get hd
    have hlt : decide (i < (b.getD []).length) = true := dt hi
    have hx := idxD_nat .i64 hi
    have hw : IntKind.i64.wrap ((i : Int) + 1) = ((i + 1 : Nat) : Int) := wr (by omega) (by omega)
    have okx := ok x (List.mem_of_getElem? hg1)
    have hH : 1 ≤ H.length := by have := (List.getElem?_eq_some_iff.1 g0).1; omega
    have exc : ∀ (h : List Ob) (b : Option (List Ce)), exp1 h (encL 18 encC b) = some (encL 18 encC b) := fun h z => exp_clean (by simp) (by simp)
    have exi : ∀ (h : List Ob) (b : Option (List Int)), exp1 h (encL 1 I b) = some (encL 1 I b) := fun h z => exp_clean (by simp) (by simp)
    have exv : ∀ (h : List Ob) (b : Option (List Vl)), exp1 h (encL 2 encV b) = some (encL 2 encV b) := fun h z => exp_clean (by simp) (by simp)
    have exz : ∀ (h : List Ob) (b : Option (List Slt)), exp1 h (encL 6 encSlt b) = some (encL 6 encSlt b) := fun h z => exp_clean (by simp) (by simp)
    have hd1' := dr6_10
    simp [opsAt, opsIn, Try.f6] at hd1'
    have w1 := Wdraw0 hd1'
    clear hd1'
    have hF := xsmall_spec x
    cases ks : smallF x.f
    · rw [ks] at hF
      rw [Wloop]
      conv => arg 1; arg 1; arg 1; simp [loopAt, loopIn, headId, Try.f6, s0, s1, s5, s7, s8, hlt, hx, hg1, hF, exv, exz, -getElem?_pos]
      exact hR _ _ (by simp)
    rw [ks] at hF
    have ap : ∀ o o' : Ob, H ++ [o] ++ [o'] = H ++ [o, o'] := fun o o' => by simp
    have q0 : ∀ t : List Ob, (H ++ t)[0]? = some ⟨0, 3, [encP c f (pM (b.getD []) (min i m) m)], 0⟩ := fun t => by rw [List.getElem?_append_left (by omega), g0]
    obtain ⟨cA, fA, e1, RA⟩ := lay_P rp (bp_pM ok (by omega) m) x
    by_cases him : i < m
    · have em : min i m = i := by omega
      have em1 : min (i + 1) m = i + 1 := by omega
      have hlm : decide (i < m) = true := dt him
      have hlay := lay_M (l := b.getD []) (c := i) (m := (m : Int)) (by omega) (by omega) (by omega) hg1
      rw [em] at e1 RA g0 rp iL
      simp only [em] at q0
      rw [hlay] at e1 RA
      simp only at e1 RA
      obtain ⟨L', H2, aE, iA, aA, pA, lA⟩ := (iL.app [⟨0, 3, [encP cA fA (pM (b.getD []) (i + 1) m)], 0⟩, ⟨0, 2, [encRf ⟨i, 0⟩], 0⟩]).pushD 16 [encRf ⟨i, 0⟩] (by rw [List.length_map, refsM_len]; simp; omega)
      have es := (iL.app [⟨0, 3, [encP cA fA (pM (b.getD []) (i + 1) m)], 0⟩, ⟨0, 2, [encRf ⟨i, 0⟩], 0⟩]).els
      have nA := iA.one; have cA' := iA.cells; have nL := iL.one; have cL := iL.cells
      simp only [List.length_append, List.length_cons, List.length_nil] at pA lA
      have p0 : H2[0]? = some ⟨0, 3, [encP c f (pM (b.getD []) i m)], 0⟩ := by rw [pA 0 (by omega) (fun e => by have := aL 0 e; omega), q0]
      have pa : H2[H.length]? = some ⟨0, 3, [encP cA fA (pM (b.getD []) (i + 1) m)], 0⟩ := by rw [pA _ (by omega) (fun e => by have := iL.lt e; omega)]; simp
      have hL' : ∀ j, At L' j → 1 ≤ j := fun j hj => by
        rcases aA j hj with h1 | h1
        · exact aL j h1
        · simp at h1; omega
      have m1 : ∀ k, (pM (b.getD []) k m).most = m := fun k => rfl
      rw [Wloop]
      conv => arg 1; arg 1; arg 1; simp [loopAt, loopIn, headId, Try.f6, s0, s1, s5, s7, s8, hlt, hx, hg1, hF, g0, q0, e1, hlm, es, aE, nA, cA', nL, cL, p0, pa, neqb_any, hw, exc, exi, exv, exz, w1, -List.map_append, -getElem?_pos]
      rw [Option.bind_some, loopK_normal]
      refine many1 b hb ok m h1 h2 K Q rest (i + 1) _ _ L' cA fA hd1 (by omega) (by simp [s0]) (by simp [s1]) (by simp [s5]) (by simp) (by simp) ?_ (by rw [em1]; exact RA) ?_ hL' hK hR
      · rw [em1, List.getElem?_set_self (by omega)]
      · rw [em1, refsM_succ, List.map_append]; exact iA.set (fun e => by have := hL' 0 e; omega) _
    · have em : min i m = m := by omega
      have em1 : min (i + 1) m = m := by omega
      have hlm : decide (i < m) = false := df him
      have hlay := lay_Mn (l := b.getD []) (c := m) (m := (m : Int)) (by omega) (by omega) rfl (by omega) x
      rw [em] at e1 RA g0 rp iL
      simp only [em] at q0
      rw [hlay] at e1 RA
      simp only at e1 RA
      have q1 : ∀ o o' : Ob, (H ++ [o, o'])[H.length]? = some o := fun o o' => by simp
      have s1' : ∀ o o' p : Ob, (H ++ [o, o']).set 0 p = H.set 0 p ++ [o, o'] := fun o o' p => set_lt (by omega) p
      rw [Wloop]
      conv => arg 1; arg 1; arg 1; simp [loopAt, loopIn, headId, Try.f6, s0, s1, s5, s7, s8, hlt, hx, hg1, hF, g0, q0, q1, s1', e1, hlm, neqb_any, hw, exc, exi, exv, exz, w1, -List.map_append, -getElem?_pos]
      rw [Option.bind_some, loopK_normal]
      refine many1 b hb ok m h1 h2 K Q rest (i + 1) _ _ L cA fA hd1 (by omega) (by simp [s0]) (by simp [s1]) (by simp [s5]) (by simp [s7]) (by simp) ?_ (by rw [em1]; exact RA) ?_ aL hK hR
      · rw [em1, List.getElem?_append_left (by simp; omega), List.getElem?_set_self (by omega)]
      · rw [em1]; exact (iL.set (fun e => by have := aL 0 e; omega) _).app _
set_option maxHeartbeats 4000000 in
/-- all that were laid are held -/
theorem many2 (b : Option (List Fx)) (hb : (b.getD []).length ≤ 20) (ok : ∀ x ∈ b.getD [], okX x) (m c : Nat) (h1 : 1 ≤ m) (h2 : m ≤ 30) (hcm : c ≤ m) (hcl : c ≤ (b.getD []).length) (cs : Option (List Ce)) (fr : Option (List Int)) (rp : Rp cs fr (pM (b.getD []) c m)) (L : D) (H0 : List Ob) (hH0 : 1 ≤ H0.length) (g0 : H0[0]? = some ⟨0, 3, [encP cs fr (pM (b.getD []) c m)], 0⟩) (iL : IsS H0 2 ((refsM c).map encRf) L) {X : Type} (K : Ex × St → Option X) (Q : Option X → Prop) : ∀ (k i : Nat) (σ : Nat → D) (H : List Ob), i + k = c →
    σ 0 = I m → σ 1 = encL 16 encX b → σ 5 = .ptr 0 0 0 0 → σ 7 = L → σ 12 = I i → H0.length ≤ H.length → (∀ k, k < H0.length → H[k]? = H0[k]?) →
    (∀ σ' H', σ' 0 = I m → σ' 5 = .ptr 0 0 0 0 → σ' 7 = L → H0.length ≤ H'.length → (∀ k, k < H0.length → H'[k]? = H0[k]?) → Q (K (.exit 2, ⟨σ', H', 163⟩))) →
    Q ((W Try.prog cfg (.loop (loopAt Try.f6 17)) ⟨σ, H, 163⟩).bind K) := by
  intro k
  induction k with
  | zero =>
    intro i σ H hi s0 s1 s5 s7 s12 hH gk hK
    have h0 : decide (i < c) = false := df (by omega)
    have hlen : lenS L = some c := by rw [iL.len, List.length_map, refsM_len]
    rw [Wloop]
    conv => arg 1; arg 1; arg 1; simp [loopAt, loopIn, headId, Try.f6, s7, s12, hlen, h0]
    exact hK _ _ (by simp [s0]) (by simp [s5]) (by simp [s7]) hH gk
  | succ k ih =>
    intro i σ H hi s0 s1 s5 s7 s12 hH gk hK
    have hlt : decide (i < c) = true := dt (by omega)
    have hlen : lenS L = some c := by rw [iL.len, List.length_map, refsM_len]
    have hil : i < (b.getD []).length := by omega
    have hx := idxD_nat .i64 hil
    have hg1 : (b.getD [])[i]? = some (b.getD [])[i] := List.getElem?_eq_getElem hil
    have okx := ok _ (List.getElem_mem hil)
    have hget : getPn (pM (b.getD []) c m) ⟨i, 0⟩ = some (b.getD [])[i] := get_some (c := mkC (b.getD [])[i]) (may_pM (by omega) (by omega) (by omega)) (cell_M m (by omega) hg1) rfl
    generalize (b.getD [])[i] = x at *
    have iH : IsS H 2 ((refsM c).map encRf) L := iL.keep fun i hi => gk i (iL.lt hi)
    have hic : i < (refsM c).length := by rw [refsM_len]; omega
    obtain ⟨id, ver, rest', hLe, hh, hel, hix⟩ := iH.ix (t := 52) un52 sz27 (i := i) hic
    have hel2 : ((refsM c).map encRf ++ rest')[i]? = some (encRf ⟨i, 0⟩) := by rw [hel, show (refsM c)[i] = ⟨(i : Nat), 0⟩ from by have := List.getElem?_eq_getElem hic; rw [refsM_get (by omega)] at this; exact (Option.some.inj this).symm]
    have hw : IntKind.i64.wrap ((i : Int) + 1) = ((i + 1 : Nat) : Int) := wr (by omega) (by omega)
    have x1 := getP rp (bp_pM ok (by omega) m) hget
    have x3 := xsame_P (y := x) okx
    rw [decide_eq_true (Eq.refl _)] at x3
    have ga := (gk 0 (by omega)).trans g0
    have ql : ∀ o : Ob, (H ++ [o])[H.length]? = some o := fun o => by simp
    have qs := sgx H
    have qh : ∀ t : List Ob, (H ++ t)[id]? = some ⟨ver, 2, (refsM c).map encRf ++ rest', 0⟩ := fun t => by rw [List.getElem?_append_left (List.getElem?_eq_some_iff.1 hh).1, hh]
    have exc : ∀ (h : List Ob) (b : Option (List Ce)), exp1 h (encL 18 encC b) = some (encL 18 encC b) := fun h z => exp_clean (by simp) (by simp)
    have exi : ∀ (h : List Ob) (b : Option (List Int)), exp1 h (encL 1 I b) = some (encL 1 I b) := fun h z => exp_clean (by simp) (by simp)
    have exv : ∀ (h : List Ob) (b : Option (List Vl)), exp1 h (encL 2 encV b) = some (encL 2 encV b) := fun h z => exp_clean (by simp) (by simp)
    have exz : ∀ (h : List Ob) (b : Option (List Slt)), exp1 h (encL 6 encSlt b) = some (encL 6 encSlt b) := fun h z => exp_clean (by simp) (by simp)
    have hd1' := dr6_19; have hd2' := dr6_20
    simp [opsAt, opsIn, Try.f6] at hd1' hd2'
    have w1 := Wdraw0 hd1'; have w2 := Wdraw0 hd2'
    clear hd1' hd2'
    rw [Wloop]
    conv => arg 1; arg 1; arg 1; simp [loopAt, loopIn, headId, Try.f6, s0, s1, s5, s7, s12, hlen, hlt, hx, hg1, hix, hh, qh, hel2, x1, x3, ga, ql, qs, hw, exc, exi, exv, exz, w1, w2, -getElem?_pos]
    rw [Option.bind_some, loopK_normal]
    exact ih (i + 1) _ _ (by omega) (by simp [s0]) (by simp [s1]) (by simp [s5]) (by simp [s7]) (by simp) (by simp; omega) (fun k hk => by rw [List.getElem?_append_left (by omega)]; exact gk k hk) hK
set_option maxHeartbeats 4000000 in
/-- each other one is dropped, from the last one on -/
theorem many3 (l : List Fx) (m c : Nat) (hcm : c ≤ 30) (hcl : c ≤ l.length) (L : D) {X : Type} (K : Ex × St → Option X) (Q : Option X → Prop) : ∀ (n J : Nat) (z : Int) (σ : Nat → D) (H : List Ob) (p : Pn) (cs : Option (List Ce)) (fr : Option (List Int)), J ≤ n → J ≤ c → ((1 ≤ J ∧ z = (J : Int) - 1 ∧ (c - J) % 2 = 0) ∨ (J = 0 ∧ z < 0 ∧ -2 ≤ z)) → Part l c m J p → Bp p → (refsPn p).length + (c - J + 1) / 2 = c → Rp cs fr p →
    σ 0 = I m → σ 5 = .ptr 0 0 0 0 → σ 7 = L → σ 15 = I z → H[0]? = some ⟨0, 3, [encP cs fr p], 0⟩ → IsS H 2 ((refsM c).map encRf) L → (∀ j, At L j → 1 ≤ j) →
    (∀ σ' H' p' cs' fr', Part l c m 0 p' → Bp p' → (refsPn p').length = c / 2 → Rp cs' fr' p' → σ' 0 = I m → σ' 5 = .ptr 0 0 0 0 → σ' 7 = L → H'[0]? = some ⟨0, 3, [encP cs' fr' p'], 0⟩ → Q (K (.exit 4, ⟨σ', H', 163⟩))) →
    Q ((W Try.prog cfg (.loop (loopAt Try.f6 23)) ⟨σ, H, 163⟩).bind K) := by
  intro n
  induction n with
  | zero =>
    intro J z σ H p cs fr hJn hJ hz P B hr rp s0 s5 s7 s15 g0 iL aL hK
    have h0 : J = 0 := by omega
    subst h0
    have hz0 : decide (0 ≤ z) = false := df (by omega)
    rw [Wloop]
    conv => arg 1; arg 1; arg 1; simp [loopAt, loopIn, headId, Try.f6, s15, hz0]
    exact hK _ _ p cs fr P B (by omega) rp (by simp [s0]) (by simp [s5]) (by simp [s7]) g0
  | succ n ih =>
    intro J z σ H p cs fr hJn hJ hz P B hr rp s0 s5 s7 s15 g0 iL aL hK
    by_cases h0 : J = 0
    · subst h0
      have hz0 : decide (0 ≤ z) = false := df (by omega)
      rw [Wloop]
      conv => arg 1; arg 1; arg 1; simp [loopAt, loopIn, headId, Try.f6, s15, hz0]
      exact hK _ _ p cs fr P B (by omega) rp (by simp [s0]) (by simp [s5]) (by simp [s7]) g0
    obtain ⟨j, rfl⟩ : ∃ j, J = j + 1 := ⟨J - 1, by omega⟩
    have hzj : z = (j : Int) := by omega
    subst hzj
    have hz0 : decide ((0 : Int) ≤ j) = true := dt (by omega)
    have hjl : j < l.length := by omega
    obtain ⟨q, hq, Pq, hrq⟩ := part_drop P (List.getElem?_eq_getElem hjl)
    obtain ⟨c1, f1, e1, R1⟩ := drop_P rp B ⟨j, 0⟩
    have B1 := drop_b B ⟨j, 0⟩
    rw [hq] at e1 R1 B1
    simp only at e1 R1 B1
    have hH : 1 ≤ H.length := by have := (List.getElem?_eq_some_iff.1 g0).1; omega
    have hic : j < (refsM c).length := by rw [refsM_len]; omega
    obtain ⟨id, ver, rest', hLe, hh, hel, hix⟩ := iL.ix (t := 52) un52 sz27 (i := j) hic
    have hel2 : ((refsM c).map encRf ++ rest')[j]? = some (encRf ⟨j, 0⟩) := by rw [hel, show (refsM c)[j] = ⟨(j : Nat), 0⟩ from by have := List.getElem?_eq_getElem hic; rw [refsM_get (by omega)] at this; exact (Option.some.inj this).symm]
    have hw : IntKind.i64.wrap ((j : Int) - 2) = (j : Int) - 2 := wr (by omega) (by omega)
    have ql : ∀ o : Ob, (H ++ [o])[H.length]? = some o := fun o => by simp
    have qs := sgx H
    have q0 : ∀ t : List Ob, (H ++ t)[0]? = some ⟨0, 3, [encP cs fr p], 0⟩ := fun t => by rw [List.getElem?_append_left (by omega), g0]
    have s1' : ∀ o p : Ob, (H ++ [o]).set 0 p = H.set 0 p ++ [o] := fun o p => set_lt (by omega) p
    have exc : ∀ (h : List Ob) (b : Option (List Ce)), exp1 h (encL 18 encC b) = some (encL 18 encC b) := fun h z => exp_clean (by simp) (by simp)
    have exi : ∀ (h : List Ob) (b : Option (List Int)), exp1 h (encL 1 I b) = some (encL 1 I b) := fun h z => exp_clean (by simp) (by simp)
    have hd1' := dr6_25
    simp [opsAt, opsIn, Try.f6] at hd1'
    have w1 := Wdraw0 hd1'
    clear hd1'
    rw [Wloop]
    conv => arg 1; arg 1; arg 1; simp [loopAt, loopIn, headId, Try.f6, s0, s5, s7, s15, hz0, hix, hh, hel2, e1, g0, q0, ql, qs, s1', hw, exc, exi, w1, -getElem?_pos]
    rw [Option.bind_some, loopK_normal]
    refine ih (j - 1) ((j : Int) - 2) _ _ q c1 f1 (by omega) (by omega) (by omega) ⟨Pq.may, Pq.most, fun k x hk => Pq.held k x (by omega)⟩ B1 (by omega) R1 (by simp [s0]) (by simp [s5]) (by simp [s7]) (by simp) ?_ ((iL.set (fun e => by have := aL 0 e; omega) _).app _) aL hK
    rw [List.getElem?_append_left (by simp; omega), List.getElem?_set_self (by omega)]
set_option maxHeartbeats 4000000 in
/-- there is room again -/
theorem many4 (m : Nat) (hm : m ≤ 30) (v7 v18 : D) {X : Type} (K : Ex × St → Option X) (Q : Option X → Prop) : ∀ (k i : Nat) (σ : Nat → D) (H : List Ob) (p : Pn) (cs : Option (List Ce)) (fr : Option (List Int)), i + k = m → mayPn p = true → p.most = m → (refsPn p).length = i → Bp p → Rp cs fr p →
    σ 0 = I m → σ 5 = .ptr 0 0 0 0 → σ 7 = v7 → σ 18 = v18 → σ 19 = I i → H[0]? = some ⟨0, 3, [encP cs fr p], 0⟩ →
    (∀ σ' H' p' cs' fr', mayPn p' = true → p'.most = m → (refsPn p').length = m → Bp p' → Rp cs' fr' p' → σ' 5 = .ptr 0 0 0 0 → σ' 7 = v7 → σ' 18 = v18 → H'[0]? = some ⟨0, 3, [encP cs' fr' p'], 0⟩ → Q (K (.exit 6, ⟨σ', H', 163⟩))) →
    Q ((W Try.prog cfg (.loop (loopAt Try.f6 31)) ⟨σ, H, 163⟩).bind K) := by
  intro k
  induction k with
  | zero =>
    intro i σ H p cs fr hi hp hmo hr B rp s0 s5 s7 s18 s19 g0 hK
    have h0 : decide (i < m) = false := df (by omega)
    rw [Wloop]
    conv => arg 1; arg 1; arg 1; simp [loopAt, loopIn, headId, Try.f6, s0, s19, h0]
    exact hK _ _ p cs fr hp hmo (by omega) B rp (by simp [s5]) (by simp [s7]) (by simp [s18]) g0
  | succ k ih =>
    intro i σ H p cs fr hi hp hmo hr B rp s0 s5 s7 s18 s19 g0 hK
    have hlt : decide (i < m) = true := dt (by omega)
    obtain ⟨a, r, ha, ma, mo, hra⟩ := lay_one hp (by omega) fx0
    obtain ⟨c1, f1, e1, R1⟩ := lay_P rp B fx0
    have B1 := lay_b B okX0
    rw [ha] at e1 R1 B1
    simp only at e1 R1 B1
    have e1' : fnc Try.prog cfg R 12 [encP cs fr p, zF] = some (.tup [encP c1 f1 a, encRf r, I 0]) := e1
    have hw : IntKind.i64.wrap ((i : Int) + 1) = ((i + 1 : Nat) : Int) := wr (by omega) (by omega)
    have hH : 1 ≤ H.length := by have := (List.getElem?_eq_some_iff.1 g0).1; omega
    have ap : ∀ o o' : Ob, H ++ [o] ++ [o'] = H ++ [o, o'] := fun o o' => by simp
    have q1 : ∀ o o' : Ob, (H ++ [o, o'])[H.length]? = some o := fun o o' => by simp
    have s1' : ∀ o o' p : Ob, (H ++ [o, o']).set 0 p = H.set 0 p ++ [o, o'] := fun o o' p => set_lt (by omega) p
    have q0 : ∀ t : List Ob, (H ++ t)[0]? = some ⟨0, 3, [encP cs fr p], 0⟩ := fun t => by rw [List.getElem?_append_left (by omega), g0]
    have exc : ∀ (h : List Ob) (b : Option (List Ce)), exp1 h (encL 18 encC b) = some (encL 18 encC b) := fun h z => exp_clean (by simp) (by simp)
    have exi : ∀ (h : List Ob) (b : Option (List Int)), exp1 h (encL 1 I b) = some (encL 1 I b) := fun h z => exp_clean (by simp) (by simp)
    rw [Wloop]
    conv => arg 1; arg 1; arg 1; simp [loopAt, loopIn, headId, Try.f6, s0, s5, s7, s18, s19, hlt, e1', g0, q0, q1, s1', hw, exc, exi, -getElem?_pos]
    rw [Option.bind_some, loopK_normal]
    refine ih (i + 1) _ _ a c1 f1 (by omega) ma (by omega) (by omega) B1 R1 (by simp [s0]) (by simp [s5]) (by simp [s7]) (by simp [s18]) (by simp) ?_ hK
    rw [List.getElem?_append_left (by simp; omega), List.getElem?_set_self (by omega)]
set_option maxHeartbeats 4000000 in
theorem many12_law (n : Int) (b : Option (List Fx)) (hlb : (b.getD []).length < 2 ^ 62) (ok : ∀ x ∈ b.getD [], okX x) : fnc Try.prog cfg R 6 [I n, encL 16 encX b] = some (.bool true) := by
  rw [fnc_at rfl, body_eq Try.func6 rfl rfl]
  cases k0 : decide (20 < (b.getD []).length)
  case true =>
    have k0' : decide ((20 : Int) < ((b.getD []).length : Int)) = true := dt (by have := of_decide_eq_true k0; omega)
    simp [argsσ, Vm.results, k0, k0', fixed12]
  have k0' : decide ((20 : Int) < ((b.getD []).length : Int)) = false := df (by have := of_decide_eq_false k0; omega)
  cases k1 : decide (n < 1)
  case true => simp [argsσ, Vm.results, k0, k0', k1, fixed12]
  cases k2 : decide (30 < n)
  case true => simp [argsσ, Vm.results, k0, k0', k1, k2, fixed12]
  have hb : (b.getD []).length ≤ 20 := by have := of_decide_eq_false k0; omega
  obtain ⟨m, rfl⟩ : ∃ m : Nat, n = m := ⟨n.toNat, by have := of_decide_eq_false k1; omega⟩
  have h1 : 1 ≤ m := by have := of_decide_eq_false k1; omega
  have h2 : m ≤ 30 := by have := of_decide_eq_false k2; omega
  have en := pnew_spec m
  have hn : newPn m = some ⟨[], [], m⟩ := by unfold newPn; rw [if_pos (by omega)]
  rw [hn] at en
  have en' : fnc Try.prog cfg R 20 [I m] = some (.tup [encP none none (pM (b.getD []) 0 m), .bool true]) := en
  obtain ⟨Q, hQ⟩ : ∃ Q : Option D → Prop, Q = fun o => o = some (.bool true) := ⟨_, rfl⟩
  rw [show ∀ v : Option D, (v = some (.bool true)) = Q v from fun v => by rw [hQ]]
  simp [argsσ, k0, k0', k1, k2, en', fixed12, Option.bind_assoc]
  refine many1 b hb ok m h1 h2 _ Q (b.getD []) 0 _ _ (.sl 2 [] true) none none rfl (by omega) (by simp [argsσ]) (by simp [argsσ]) (by simp) (by simp) (by simp) (by rw [Nat.zero_min]; rfl) (by rw [Nat.zero_min]; exact ⟨rfl, rfl⟩) (by rw [Nat.zero_min]; exact .inr (.inl ⟨rfl, rfl⟩)) (fun j hj => by cases hj) ?_ ?_
  case refine_2 =>
    intro σ' H' t4
    rw [hQ]
    simp [Vm.results, t4]
  obtain ⟨c, hc⟩ : ∃ c, min (b.getD []).length m = c := ⟨_, rfl⟩
  rw [hc]
  intro σ1 H1 L cs fr s0 s1 s5 s7 g0 rp iL aL
  have hH1 : 1 ≤ H1.length := by have := (List.getElem?_eq_some_iff.1 g0).1; omega
  simp [s0, s1, s5, s7, Option.bind_assoc]
  refine many2 b hb ok m c h1 h2 (by omega) (by omega) cs fr rp L H1 hH1 g0 iL _ Q c 0 _ _ (by omega) (by simp [s0]) (by simp [s1]) (by simp [s5]) (by simp [s7]) (by simp) (by omega) (fun k hk => rfl) ?_
  intro σ2 H2 t0 t5 t7 hl2 gk
  have g2 : H2[0]? = _ := (gk 0 (by omega)).trans g0
  have iL2 : IsS H2 2 ((refsM c).map encRf) L := iL.keep fun i hi => gk i (iL.lt hi)
  have hlen : lenS L = some c := by rw [iL.len, List.length_map, refsM_len]
  have hw : IntKind.i64.wrap ((c : Int) - 1) = (c : Int) - 1 := wr (by omega) (by omega)
  simp [t0, t5, t7, hlen, hw, Option.bind_assoc]
  have hp0 : Part (b.getD []) c m c (pM (b.getD []) c m) := ⟨may_pM (by omega) (by omega) (by omega), rfl, fun k x hk hx => cell_M m hk hx⟩
  have hr0 := refs_flen hp0.may
  have hcl : (pM (b.getD []) c m).cells.length = c := by simp [pM]; omega
  have hfl : (pM (b.getD []) c m).free.length = 0 := rfl
  refine many3 (b.getD []) m c (by omega) (by omega) L _ Q c c ((c : Int) - 1) _ _ (pM (b.getD []) c m) cs fr (by omega) (by omega) (by omega) hp0 (bp_pM ok (by omega) m) (by omega) rp (by simp [t0]) (by simp [t5]) (by simp [t7]) (by simp) g2 iL2 aL ?_
  intro σ3 H3 p cs3 fr3 P3 B3 hr3 R3 u0 u5 u7 g3
  obtain ⟨o, e3, r3⟩ := refs_P R3 B3
  have hol : (o.getD []).length = c / 2 := by rw [r3, hr3]
  have exc : ∀ (h : List Ob) (b : Option (List Ce)), exp1 h (encL 18 encC b) = some (encL 18 encC b) := fun h z => exp_clean (by simp) (by simp)
  have exi : ∀ (h : List Ob) (b : Option (List Int)), exp1 h (encL 1 I b) = some (encL 1 I b) := fun h z => exp_clean (by simp) (by simp)
  have exr : ∀ (h : List Ob) (b : Option (List Rf)), exp1 h (encL 2 encRf b) = some (encL 2 encRf b) := fun h z => exp_clean (by simp) (by simp)
  obtain ⟨c2, hc2⟩ : ∃ c2, c / 2 = c2 := ⟨_, rfl⟩
  rw [hc2] at hol hr3
  simp [u0, u5, u7, g3, e3, hol, exc, exi, exr, Option.bind_assoc, -getElem?_pos]
  refine many4 m h2 L (I c2) _ Q (m - c2) c2 _ _ p cs3 fr3 (by omega) P3.may P3.most hr3 B3 R3 (by simp [u0]) (by simp [u5]) (by simp [u7]) (by simp) (by simp) g3 ?_
  intro σ4 H4 p4 cs4 fr4 m4 o4 r4 B4 R4 v5 v7 v18 g4
  obtain ⟨c5, f5, e5, R5⟩ := lay_P R4 B4 fx0
  have hn5 := lay_none m4 (by omega) fx0
  rw [hn5] at e5
  generalize (layPn p4 fx0).1 = P5 at *
  generalize (layPn p4 fx0).2.1 = r5 at *
  have e5' : fnc Try.prog cfg R 12 [encP cs4 fr4 p4, zF] = some (.tup [encP c5 f5 P5, encRf r5, I 120]) := e5
  have hq : ∀ s t, binD Try.prog .quo 3 s t (I c) (I 2) = some (I c2) := fun s t => by
    have h := bin_quo (P := Try.prog) 3 s t .i64 (c : Int) 2 (by decide)
    rw [show ((c : Int).tdiv 2) = ((c / 2 : Nat) : Int) from by rw [Int.tdiv_eq_ediv_of_nonneg (by omega)]; omega, hc2, wr (by omega) (by omega)] at h
    exact h
  rw [hQ]
  simp [Vm.results, v5, v7, v18, g4, e5', hlen, hq, exc, exi, -getElem?_pos]
end Go.Proofs.YtopgmnjijioheaaW.Rg
