/- Who is ready; small worlds. No conditions. -/
import Derived.Test.YtifmjomfoilnnaaGreatVmW1
set_option linter.unusedVariables false
set_option linter.unusedSimpArgs false
namespace Go.Proofs.YtifmjomfoilnnaaGreatW.Rg
open Go.Proofs.YtifmjomfoilnnaaGreatW.Vm Go.Proofs.YtifmjomfoilnnaaGreatW.Md
open Go.Proofs.YtifmjomfoilnnaaGreatW.Rn (Ring encRing newRing noRing inb)
open Go Go.Proofs
def itemsO (r : Ring) : List Rf := if Rn.may r = true then Rn.items r else []
def readyOf : List Ring → List Rf → List Rf
  | [], _ => []
  | r :: rs, [] => itemsO r ++ readyOf rs []
  | r :: rs, c :: cs => (if c = noR then [] else [c]) ++ itemsO r ++ readyOf rs cs
theorem items_spec (r : Ring) (hl : r.l.length < 2 ^ 62) : ∃ o : Option (List Rf), fnc Tryz.prog cfg R 44 [encRing r] = some (encL 2 encRf o) ∧ o.getD [] = itemsO r := by
  unfold itemsO
  cases h : Rn.may r
  · rw [if_neg (by decide)]
    exact ⟨none, Rn.Items_no hl (fun e => by rw [(Rn.may_iff r).2 e] at h; cases h), rfl⟩
  · rw [if_pos rfl]
    exact ⟨some (Rn.items r), Rn.Items_ok ((Rn.may_iff r).1 h), rfl⟩
theorem ritems_spec (r : Ring) : ∃ o : Option (List Rf), fnc Tryz.prog cfg R 23 [encRing r] = some (encL 2 encRf o) ∧ o.getD [] = itemsO r := by
  unfold itemsO
  cases h : Rn.may r
  · rw [if_neg (by decide)]
    exact ⟨some [], Rn.ritems_no (fun e => by rw [(Rn.may_iff r).2 e] at h; cases h), rfl⟩
  · rw [if_pos rfl]
    exact ⟨some (Rn.items r), Rn.ritems_ok ((Rn.may_iff r).1 h), rfl⟩
theorem itemsO_len (r : Ring) : (itemsO r).length ≤ 1024 := by
  unfold itemsO
  split
  · rename_i h
    have ok := (Rn.may_iff r).1 h
    rw [Rn.items_len ok]
    have := ok.h1; have := ok.h2; have := ok.h3; have := ok.h4; have := ok.h5; have := ok.h6; have := ok.h7
    omega
  · simp
theorem readyOf_len : ∀ (l : List Ring) (c : List Rf), (readyOf l c).length ≤ l.length * 1025
  | [], _ => by simp [readyOf]
  | r :: rs, [] => by
    have := readyOf_len rs []; have := itemsO_len r
    simp [readyOf]; omega
  | r :: rs, c :: cs => by
    have := readyOf_len rs cs; have := itemsO_len r
    simp [readyOf]
    split <;> simp <;> omega
theorem readyOf_drop {r : Ring} {rest : List Ring} {c : List Rf} {i : Nat} : readyOf (r :: rest) (c.drop i) = (match c[i]? with | some x => if x = noR then [] else [x] | none => []) ++ itemsO r ++ readyOf rest (c.drop (i + 1)) := by
  by_cases h : i < c.length
  · rw [List.drop_eq_getElem_cons h, List.getElem?_eq_getElem h]; rfl
  · rw [List.drop_eq_nil_of_le (by omega), List.drop_eq_nil_of_le (by omega), List.getElem?_eq_none (by omega)]; rfl
set_option maxHeartbeats 2000000 in
theorem ready_loop (w : Wd) (hr : w.rl.length ≤ 100) (hb : ∀ r ∈ w.rl, r.l.length < 2 ^ 62) (hc : w.cl.length < 2 ^ 62) {X : Type} (K : Ex × St → Option X) (Q : Option X → Prop) : ∀ (rest : List Ring) (i : Nat) (σ : Nat → D) (H : List Ob) (L : D) (pre : List Rf), w.rl.drop i = rest → pre.length ≤ i * 1025 →
    σ 1 = .ptr 0 0 0 0 → σ 3 = L → σ 7 = encL 4 encRing w.rings → σ 8 = I w.rl.length → σ 9 = I i → 1 ≤ H.length → H[0]? = some ⟨0, 19, [encW w], 0⟩ → IsS H 2 (pre.map encRf) L → (∀ j, At L j → 1 ≤ j) →
    (∀ σ' H' L', σ' 3 = L' → IsS H' 2 ((pre ++ readyOf rest (w.cl.drop i)).map encRf) L' → Q (K (.exit 0, ⟨σ', H', 42⟩))) →
    Q ((W Tryz.prog cfg (.loop (loopAt Tryz.f18 3)) ⟨σ, H, 42⟩).bind K)
  | [], i, σ, H, L, pre, hd, hp, s1, s3, s7, s8, s9, hH, g0, iL, aL, hK => by
    have hi : decide (i < w.rl.length) = false := df (by have := congrArg List.length hd; simp at this; omega)
    rw [Wloop]
    conv => arg 1; arg 1; arg 1; simp [loopAt, loopIn, headId, Tryz.f18, s8, s9, hi]
    exact hK _ H L (by simp [s3]) (by simpa [readyOf] using iL)
  | r :: rest, i, σ, H, L, pre, hd, hp, s1, s3, s7, s8, s9, hH, g0, iL, aL, hK => by
    obtain ⟨hg1, hd1, hi⟩ := drop_get hd
    have hlt : decide (i < w.rl.length) = true := dt hi
    have hx : idxD (w.rings.getD []).length (I i) = some i := idxD_nat .i64 hi
    have hg1' : (w.rings.getD [])[i]? = some r := hg1
    have hw : IntKind.i64.wrap ((i : Int) + 1) = ((i + 1 : Nat) : Int) := wr (by omega) (by omega)
    obtain ⟨oi, e1, r1⟩ := items_spec r (hb r (List.mem_of_getElem? hg1))
    have hil := itemsO_len r
    have nr := noref_spec
    have exr : ∀ (h : List Ob) (b : Option (List Rf)), exp1 h (encL 2 encRf b) = some (encL 2 encRf b) := fun h z => exp_clean (by simp) (by simp)
    rw [readyOf_drop] at hK
    have ql : ∀ o : Ob, (H ++ [o])[H.length]? = some o := fun o => by simp
    have qs := sgx H
    have q0 : ∀ t : List Ob, (H ++ t)[0]? = some ⟨0, 19, [encW w], 0⟩ := fun t => by rw [List.getElem?_append_left (by omega), g0]
    have hdr := dr18_5
    simp [opsAt, opsIn, Tryz.f18] at hdr
    have w1 := Wdraw0 hdr
    clear hdr
    have hcl : (w.cur.getD []).length = w.cl.length := rfl
    have nL := iL.one; have cL := iL.cells
    have no : (w.cl[i]? = none ∨ w.cl[i]? = some noR) → Q ((W Tryz.prog cfg (.loop (loopAt Tryz.f18 3)) ⟨σ, H, 42⟩).bind K) := fun hno => by
      obtain ⟨L', H', eA, iA, aA, pA, lA⟩ := (iL.app [⟨0, 4, [encRing r], 0⟩]).pushD 16 ((oi.getD []).map encRf) (by rw [r1]; simp; omega)
      have es := (iL.app [⟨0, 4, [encRing r], 0⟩]).els
      have nA := iA.one; have cA := iA.cells
      simp only [List.length_append, List.length_cons, List.length_nil] at aA pA lA
      have fin : ∀ σ' : Nat → D, σ' 1 = .ptr 0 0 0 0 → σ' 3 = L' → σ' 7 = encL 4 encRing w.rings → σ' 8 = I w.rl.length → σ' 9 = I (i + 1 : Nat) → Q ((W Tryz.prog cfg (.loop (loopAt Tryz.f18 3)) ⟨σ', H', 42⟩).bind K) := fun σ' t1 t3 t7 t8 t9 => by
        refine ready_loop w hr hb hc K Q rest (i + 1) σ' H' L' (pre ++ itemsO r) hd1 (by simp; omega) t1 t3 t7 t8 t9 (by omega) (by rw [pA 0 (by omega) (fun e => by have := aL 0 e; omega), q0]) (by rw [List.map_append, ← r1]; exact iA) (fun j hj => by
          rcases aA j hj with h | h
          · exact aL j h
          · omega) (fun σ'' H'' L'' u3 iu => hK σ'' H'' L'' u3 ?_)
        rcases hno with h | h <;> rw [h] <;> simpa using iu
      rcases hno with h | h
      · have h1 : decide (i < w.cl.length) = false := df (by have := List.getElem?_eq_none_iff.1 h; omega)
        rw [Wloop]
        conv => arg 1; arg 1; arg 1; simp [loopAt, loopIn, headId, Tryz.f18, s1, s3, s7, s8, s9, hlt, hx, hg1', g0, q0, ql, qs, hcl, h1, e1, es, eA, nA, cA, nL, cL, hw, exr, w1, -List.map_append, -getElem?_pos]
        rw [Option.bind_some, loopK_normal]
        exact fin _ (by simp [s1]) (by simp) (by simp [s7]) (by simp [s8]) (by simp)
      · have hlc := (List.getElem?_eq_some_iff.1 h).1
        have h1 : decide (i < w.cl.length) = true := dt hlc
        have hxc : idxD w.cl.length (I i) = some i := idxD_nat .i64 hlc
        have hgc : (w.cur.getD [])[i]? = some noR := h
        have nq := fun s t => by have := neq_rf s t noR noR; rw [dt rfl] at this; exact this
        generalize noR = no' at *
        rw [Wloop]
        conv => arg 1; arg 1; arg 1; simp [loopAt, loopIn, headId, Tryz.f18, s1, s3, s7, s8, s9, hlt, hx, hg1', g0, q0, ql, qs, hcl, h1, hxc, hgc, nr, nq, e1, es, eA, nA, cA, nL, cL, hw, exr, w1, -List.map_append, -getElem?_pos]
        rw [Option.bind_some, loopK_normal]
        exact fin _ (by simp [s1]) (by simp) (by simp [s7]) (by simp [s8]) (by simp)
    cases hci : w.cl[i]? with
    | none => exact no (.inl hci)
    | some c =>
      by_cases hcn : c = noR
      · subst hcn; exact no (.inr hci)
      rw [hci] at hK
      simp only [if_neg hcn] at hK
      have hlc := (List.getElem?_eq_some_iff.1 hci).1
      have h1 : decide (i < w.cl.length) = true := dt hlc
      have hxc : idxD w.cl.length (I i) = some i := idxD_nat .i64 hlc
      have hgc : (w.cur.getD [])[i]? = some c := hci
      have nq := fun s t => by have := neq_rf s t c noR; rw [df hcn] at this; exact this
      obtain ⟨L1, H1, eB, iB, aB, pB, lB⟩ := (iL.app [⟨0, 4, [encRing r], 0⟩]).pushD 16 [encRf c] (by simp; omega)
      have esB := (iL.app [⟨0, 4, [encRing r], 0⟩]).els
      have nB := iB.one; have cB := iB.cells
      simp only [List.length_append, List.length_cons, List.length_nil] at aB pB lB
      have gB : H1[H.length]? = some ⟨0, 4, [encRing r], 0⟩ := by rw [pB _ (by omega) (fun e => by have := iL.lt e; omega)]; simp
      have gB0 : H1[0]? = some ⟨0, 19, [encW w], 0⟩ := by rw [pB 0 (by omega) (fun e => by have := aL 0 e; omega), q0]
      have aL1 : ∀ j, At L1 j → 1 ≤ j := fun j hj => by
        rcases aB j hj with h | h
        · exact aL j h
        · omega
      obtain ⟨L', H', eA, iA, aA, pA, lA⟩ := iB.pushD 16 ((oi.getD []).map encRf) (by rw [r1]; simp; omega)
      have es := iB.els
      have nA := iA.one; have cA := iA.cells
      generalize noR = no' at *
      rw [Wloop]
      conv => arg 1; arg 1; arg 1; simp [loopAt, loopIn, headId, Tryz.f18, s1, s3, s7, s8, s9, hlt, hx, hg1', g0, q0, ql, qs, hcl, h1, hxc, hgc, nr, nq, e1, esB, eB, nB, cB, gB, gB0, es, eA, nA, cA, nL, cL, hw, exr, w1, -List.map_append, -getElem?_pos]
      rw [Option.bind_some, loopK_normal]
      refine ready_loop w hr hb hc K Q rest (i + 1) _ H' L' (pre ++ [c] ++ itemsO r) hd1 (by simp; omega) (by simp [s1]) (by simp) (by simp [s7]) (by simp [s8]) (by simp) (by omega) (by rw [pA 0 (by omega) (fun e => by have := aL1 0 e; omega), gB0]) (by rw [List.map_append, List.map_append, ← r1]; exact iA) (fun j hj => by
        rcases aA j hj with h | h
        · exact aL1 j h
        · omega) (fun σ'' H'' L'' u3 iu => hK σ'' H'' L'' u3 (by simpa using iu))
theorem cl_rfs' : ∀ l : List Rf, cleans (l.map encRf) = true := cl_rfs
theorem ready_spec (w : Wd) (hr : w.rl.length ≤ 100) (hb : ∀ r ∈ w.rl, r.l.length < 2 ^ 62) (hc : w.cl.length < 2 ^ 62) : ∃ o : Option (List Rf), fnc Tryz.prog cfg R 18 [encW w] = some (encL 2 encRf o) ∧ o.getD [] = readyOf w.rl w.cl := by
  obtain ⟨Q, hQ⟩ : ∃ Q : Option D → Prop, Q = fun v => ∃ o : Option (List Rf), v = some (encL 2 encRf o) ∧ o.getD [] = readyOf w.rl w.cl := ⟨_, rfl⟩
  suffices h : Q (fnc Tryz.prog cfg R 18 [encW w]) by rw [hQ] at h; exact h
  have hrl : (w.rings.getD []).length = w.rl.length := rfl
  rw [fnc_at rfl, body_eq Tryz.func18 rfl rfl]
  simp [argsσ, hrl, Option.bind_assoc]
  refine ready_loop w hr hb hc _ Q w.rl 0 _ _ .snil [] rfl (by simp) (by simp) (by simp) (by simp) (by simp) (by simp) (by simp) rfl (.inl ⟨rfl, rfl⟩) (fun j hj => by cases hj) ?_
  intro σ' H' L' t3 iL
  rw [List.nil_append, List.drop_zero] at iL
  obtain ⟨x1, y1⟩ := iL.expO (cl_rfs _)
  have nL := iL.one
  rw [hQ]
  refine ⟨oS (readyOf w.rl w.cl) L', ?_, y1⟩
  simp [t3, x1, nL, Vm.results]
def pnW (w : Wd) : Pn := ⟨w.cs.getD [], w.fr.getD [], w.pm⟩
def smallRs (l : List Ring) : Bool := l.all fun r => decide (r.l.length ≤ 60)
def smallW (w : Wd) : Bool := decide ((w.rl.length : Int) ≤ 70) && smallRs w.rl && decide ((w.cl.length : Int) ≤ 70) && smallPn (pnW w) 30 && small (w.prog.getD []) 300
theorem smallW_loop (w : Wd) (hn : decide (w.rl.length ≤ 70) = true) {X : Type} (K : Ex × St → Option X) (Q : Option X → Prop) : ∀ (rest : List Ring) (i : Nat) (σ : Nat → D), w.rl.drop i = rest → σ 1 = .ptr 0 0 0 0 → σ 3 = I i →
    (∀ σ', smallRs rest = true → σ' 1 = .ptr 0 0 0 0 → Q (K (.exit 0, ⟨σ', [⟨0, 19, [encW w], 0⟩], 44⟩))) → (∀ σ', smallRs rest = false → σ' 2 = .bool false → Q (K (.ret, ⟨σ', [⟨0, 19, [encW w], 0⟩], 44⟩))) →
    Q ((W Tryz.prog cfg (.loop (loopAt Tryz.f9 2)) ⟨σ, [⟨0, 19, [encW w], 0⟩], 44⟩).bind K)
  | [], i, σ, hd, s1, s3, hK, hR => by
    have hrl : (w.rings.getD []).length = w.rl.length := rfl
    have hi : decide (i < w.rl.length) = false := df (by have := congrArg List.length hd; simp at this; omega)
    rw [Wloop]
    conv => arg 1; arg 1; arg 1; simp [loopAt, loopIn, headId, Tryz.f9, s1, s3, hrl, hi, -getElem?_pos]
    exact hK _ rfl (by simp [s1])
  | r :: rest, i, σ, hd, s1, s3, hK, hR => by
    obtain ⟨hg1, hd1, hi⟩ := drop_get hd
    have hrl : (w.rings.getD []).length = w.rl.length := rfl
    have hlt : decide (i < w.rl.length) = true := dt hi
    have hx : idxD w.rl.length (I i) = some i := idxD_nat .i64 hi
    have hg1' : (w.rings.getD [])[i]? = some r := hg1
    have h70 := of_decide_eq_true hn
    have hn' : decide ((w.rl.length : Int) ≤ 70) = true := dt (by omega)
    have hw : IntKind.i64.wrap ((i : Int) + 1) = ((i + 1 : Nat) : Int) := wr (by omega) (by omega)
    have hs := Rn.small_spec r
    have exr : ∀ (h : List Ob) (b : Option (List Rf)), exp1 h (encL 2 encRf b) = some (encL 2 encRf b) := fun h z => exp_clean (by simp) (by simp)
    have e0 : smallRs (r :: rest) = (decide (r.l.length ≤ 60) && smallRs rest) := rfl
    rw [e0] at hK hR
    cases k : decide (r.l.length ≤ 60) <;> rw [k] at hs hK hR
    · rw [Wloop]
      conv => arg 1; arg 1; arg 1; simp [loopAt, loopIn, headId, Tryz.f9, s1, s3, hrl, hlt, hn, hn', hx, hg1', hs, exr, -getElem?_pos]
      exact hR _ rfl (by simp)
    · rw [Wloop]
      conv => arg 1; arg 1; arg 1; simp [loopAt, loopIn, headId, Tryz.f9, s1, s3, hrl, hlt, hn, hn', hx, hg1', hs, hw, exr, -getElem?_pos]
      rw [Option.bind_some, loopK_normal]
      exact smallW_loop w hn K Q rest (i + 1) _ hd1 (by simp [s1]) (by simp) (fun σ' h => hK σ' (by rw [h]; rfl)) (fun σ' h => hR σ' (by rw [h]; rfl))
theorem smallW_out (w : Wd) (hn : decide (w.rl.length ≤ 70) = false) {X : Type} (K : Ex × St → Option X) (Q : Option X → Prop) (σ : Nat → D) (s1 : σ 1 = .ptr 0 0 0 0) (s3 : σ 3 = I 0)
    (hK : ∀ σ', σ' 1 = .ptr 0 0 0 0 → Q (K (.exit 0, ⟨σ', [⟨0, 19, [encW w], 0⟩], 44⟩))) :
    Q ((W Tryz.prog cfg (.loop (loopAt Tryz.f9 2)) ⟨σ, [⟨0, 19, [encW w], 0⟩], 44⟩).bind K) := by
  have hrl : (w.rings.getD []).length = w.rl.length := rfl
  have h0 : decide (0 < w.rl.length) = true := dt (by have := of_decide_eq_false hn; omega)
  have hn' : decide ((w.rl.length : Int) ≤ 70) = false := df (by have := of_decide_eq_false hn; omega)
  rw [Wloop]
  conv => arg 1; arg 1; arg 1; simp [loopAt, loopIn, headId, Tryz.f9, s1, s3, hrl, h0, hn, hn', -getElem?_pos]
  exact hK _ (by simp [s1])
theorem smallW_spec (w : Wd) (hc : (w.cs.getD []).length < 2 ^ 62) : fnc Tryz.prog cfg R 9 [encW w] = some (.bool (smallW w)) := by
  have hrl : (w.rings.getD []).length = w.rl.length := rfl
  have hcl : (w.cur.getD []).length = w.cl.length := rfl
  have hP := smallPn_spec w.cs w.fr w.pm 30 hc
  have hS := small_spec w.prog 300
  have exp : ∀ (h : List Ob) (b : Option (List Fu)), exp1 h (encL 4 encFunc b) = some (encL 4 encFunc b) := fun h z => exp_clean (by simp) (by simp)
  have exc : ∀ (h : List Ob) (b : Option (List Ce)), exp1 h (encL 18 encCe b) = some (encL 18 encCe b) := fun h z => exp_clean (by simp) (by simp)
  have exi : ∀ (h : List Ob) (b : Option (List Int)), exp1 h (encL 1 I b) = some (encL 1 I b) := fun h z => exp_clean (by simp) (by simp)
  have c1 : ∀ n : Nat, decide ((n : Int) ≤ 70) = decide (n ≤ 70) := fun n => by rw [decide_eq_decide]; omega
  unfold smallW pnW
  rw [fnc_at rfl, body_eq Tryz.func9 rfl rfl]
  simp only [c1]
  cases k0 : decide (w.rl.length ≤ 70)
  · have k0' : decide ((w.rl.length : Int) ≤ 70) = false := by rw [c1, k0]
    simp [argsσ, Option.bind_assoc]
    refine smallW_out w k0 _ (fun o => o = some _) _ (by simp) (by simp) ?_
    intro σ' t1
    simp [Vm.results, t1, hrl, k0, k0']
  · have k0' : decide ((w.rl.length : Int) ≤ 70) = true := by rw [c1, k0]
    simp [argsσ, Option.bind_assoc]
    refine smallW_loop w k0 _ (fun o => o = some _) w.rl 0 _ rfl (by simp) (by simp) ?_ ?_
    · intro σ' h t1
      rw [h]
      have k1' := c1 w.cl.length
      cases k1 : decide (w.cl.length ≤ 70) <;> rw [k1] at k1'
      · simp [Vm.results, t1, hrl, hcl, k0, k0', k1, k1']
      cases k2 : smallPn ⟨w.cs.getD [], w.fr.getD [], w.pm⟩ 30 <;> rw [k2] at hP
      · simp [Vm.results, t1, hrl, hcl, k0, k0', k1, k1', hP, exc, exi]
      cases k3 : small (w.prog.getD []) 300 <;> rw [k3] at hS
      · simp [Vm.results, t1, hrl, hcl, k0, k0', k1, k1', hP, hS, exc, exi, exp]
      · simp [Vm.results, t1, hrl, hcl, k0, k0', k1, k1', hP, hS, exc, exi, exp]
    · intro σ' h t2
      rw [h]
      simp [Vm.results, t2]
end Go.Proofs.YtifmjomfoilnnaaGreatW.Rg
