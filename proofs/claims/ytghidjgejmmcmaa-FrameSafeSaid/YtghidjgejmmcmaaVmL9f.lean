/- A frame of a program with which nothing is wrong never ends for want of a value, of room, or of a place: the law. No conditions. -/
import Derived.Test.YtghidjgejmmcmaaVmL9e
set_option linter.unusedVariables false
set_option linter.unusedSimpArgs false
namespace Go.Proofs.YtghidjgejmmcmaaW.Rg
open Go.Proofs.YtghidjgejmmcmaaW.Vm Go.Proofs.YtghidjgejmmcmaaW.Md
open Go Go.Proofs
theorem ret_any2 (h : List Ob) (av : List D) (r : D) : ∃ H', retK cfg h av r = some (r, H') := by
  unfold retK
  split
  · exact ⟨_, rfl⟩
  · rw [if_neg (fun h => by cases h.1)]
    exact ⟨_, rfl⟩
/-- the arguments are laid -/
theorem args_loop (p : Option (List Fu)) (n : Nat) (x : Fu) (hx : (p.getD [])[n]? = some x) (l : Option (List Ou)) {X : Type} (K : Ex × St → Option X) (Q : Option X → Prop) (hx16 : 0 ≤ x.arity ∧ x.arity ≤ 16) :
    ∀ (m i : Nat) (H : List Ob) (d : D) (σ : Nat → D), i + m = x.arity.toNat → IsS H 2 ((List.replicate i v0).map encV) d → σ 0 = encProg p → σ 1 = I n → σ 2 = encL 3 encO l → σ 7 = d → σ 8 = I i →
    (∀ σ' H' d', IsS H' 2 ((List.replicate x.arity.toNat v0).map encV) d' → σ' 0 = encProg p → σ' 1 = I n → σ' 2 = encL 3 encO l → σ' 7 = d' → Q (K (.exit 0, ⟨σ', H', 180⟩))) →
    Q ((W Try.prog cfg (.loop (loopAt Try.f3 5)) ⟨σ, H, 180⟩).bind K) := by
  have hn : n < (p.getD []).length := (List.getElem?_eq_some_iff.1 hx).1
  have hix := idxD_nat .i64 hn
  intro m
  induction m with
  | zero =>
    intro i H d σ hi hd s0' s1 s2 s7 s8 hK
    have h0 : decide ((i : Int) < x.arity) = false := df (by omega)
    have ei : i = x.arity.toNat := by omega
    rw [ei] at hd
    rw [Wloop]
    conv => arg 1; arg 1; arg 1; simp [loopAt, loopIn, headId, Try.f3, s0', s1, s8, hix, hx, h0]
    refine hK _ H d hd ?_ ?_ ?_ ?_
    · simp [s0']
    · simp [s1]
    · simp [s2]
    · simp [s7]
  | succ m ih =>
    intro i H d σ hi hd s0' s1 s2 s7 s8 hK
    have h0 : decide ((i : Int) < x.arity) = true := dt (by omega)
    have h1 : decide ((i : Int) < 16) = true := dt (by omega)
    have h1' : decide (i < 16) = true := dt (by omega)
    have hw : IntKind.i64.wrap ((i : Int) + 1) = ((i + 1 : Nat) : Int) := wr (by omega) (by omega)
    have es := hd.els
    have er : (List.replicate (i + 1) v0).map encV = (List.replicate i v0).map encV ++ [encV v0] := by rw [List.replicate_succ']; simp
    have step : ∃ d' H', apK 16 2 H d ((List.replicate i v0).map encV) [.agg [.int .i64 0, .int .i64 0]] = some (d', H') ∧ IsS H' 2 ((List.replicate (i + 1) v0).map encV) d' := by
      rw [apK_ok (by simp; omega), er]
      rcases hd with ⟨rfl, hq⟩ | ⟨rfl, hq⟩ | ⟨id, ver, rest, rfl, hh⟩
      · rw [hq, apN_snil]
        exact ⟨_, _, rfl, .inr (.inr ⟨H.length, 0, [], by simp, by simp [newOb, v0]⟩)⟩
      · rw [hq, apN_sl]
        exact ⟨_, _, rfl, .inr (.inr ⟨H.length, 0, [], by simp, by simp [newOb, v0]⟩)⟩
      · have hid := (List.getElem?_eq_some_iff.1 hh).1
        rw [apN_own, hh, Option.bind_some, if_pos (by simp)]
        refine ⟨_, _, rfl, .inr (.inr ⟨id, ver + 1, [], by simp, ?_⟩)⟩
        rw [List.getElem?_set_self hid]; simp [v0]
    obtain ⟨d', H', ea, hd'⟩ := step
    rw [Wloop]
    conv => arg 1; arg 1; arg 1; simp [loopAt, loopIn, headId, Try.f3, s0', s1, s7, s8, hix, hx, h0, h1, h1', es, ea, hw, -List.map_replicate]
    rw [Option.bind_some, loopK_normal]
    exact ih (i + 1) H' d' _ (by omega) hd' (by simp [s0']) (by simp [s1]) (by simp [s2]) (by simp) (by simp) hK
theorem safe9_law (p : Option (List Fu)) (hb : Bnd (p.getD [])) (hz : ∀ f ∈ p.getD [], f.c.length * 24 ≤ 2 ^ 47) (fn : Int) (l : Option (List Ou)) (hll : (l.getD []).length < 2 ^ 47) : fnc Try.prog cfg R 3 [encProg p, I fn, encL 3 encO l] = some (.bool true) := by
  have hlen := hb.len
  have hS := small_spec p 300
  have hG := rgood_spec p hb
  rw [fnc_at rfl, body_eq Try.func3 rfl rfl]
  cases hs : small (p.getD []) 300 with
  | false => rw [hs] at hS; simp [argsσ, Vm.results, hS, fixed9]
  | true =>
  rw [hs] at hS
  cases hg : good (p.getD []) with
  | false => rw [hg] at hG; simp [argsσ, Vm.results, hS, hG, fixed9]
  | true =>
  rw [hg] at hG
  cases k1 : decide (fn < 0)
  case true => simp [argsσ, Vm.results, hS, hG, fixed9, k1]
  cases k2 : decide (((p.getD []).length : Int) ≤ fn)
  case true => simp [argsσ, Vm.results, hS, hG, fixed9, k1, k2]
  have m1 := of_decide_eq_false k1; have m2 := of_decide_eq_false k2
  obtain ⟨n, rfl⟩ : ∃ n : Nat, fn = n := ⟨fn.toNat, by omega⟩
  have k2' : decide ((p.getD []).length ≤ n) = false := df (by omega)
  have hn : n < (p.getD []).length := by omega
  obtain ⟨x, hx⟩ : ∃ x, (p.getD [])[n]? = some x := ⟨_, List.getElem?_eq_getElem hn⟩
  cases k3 : decide ((100 : Int) < (l.getD []).length)
  case true =>
    have k3' : decide (100 < (l.getD []).length) = true := dt (by have := of_decide_eq_true k3; omega)
    simp [argsσ, Vm.results, hS, hG, fixed9, k1, k2, k2', k3, k3']
  have hl : (l.getD []).length ≤ 100 := by have := of_decide_eq_false k3; omega
  have k3' : decide (100 < (l.getD []).length) = false := df (by omega)
  obtain ⟨f, ef, I0, n1, n2, n3⟩ := safe_new hg hx
  have hxm := List.mem_of_getElem? hx
  have hh := fmay_head (mayP_f (good_iff.1 hg).1 hxm)
  have hD := rdepths_spec p hb n
  rw [if_pos ⟨hg, by omega, by omega⟩, depths_good hg hx] at hD
  simp [argsσ, hS, hG, fixed9, k1, k2, k2', k3, k3', Option.bind_assoc]
  refine args_loop p n x hx l _ (fun o => o = some _) ⟨hh.1, hh.2.1⟩ x.arity.toNat 0 [] (.sl 2 [] true) _ (by omega) (.inr (.inl ⟨rfl, by simp⟩)) (by simp [argsσ]) (by simp [argsσ]) (by simp [argsσ]) (by simp) (by simp) ?_
  intro σ' H' d' hd' t0 t1 t2 t7
  obtain ⟨ao, ea, ga⟩ := hd'.exp' (cl_vals _)
  obtain ⟨d, eN, a, b, z, rfl, ga1, gb1, gz1⟩ := new_spec p (by omega) n ao 3 (by rw [ga]; simp; omega)
  rw [ga, ef] at eN ga1 gb1 gz1
  simp only [Option.isSome_some, Option.getD_some] at eN ga1 gb1 gz1
  obtain ⟨H2, eR⟩ := ret_any2 H' [encProg p, I n, d', I 3] (.tup [frC f (encL 2 encV a) (encL 2 encV b) (encL 6 encSlt z), .bool true])
  have rD : ∀ h : List Ob, retK cfg h [encProg p, I n] (encL 1 I (some (depthsOf (p.getD []) x))) = some (encL 1 I (some (depthsOf (p.getD []) x)), h) := fun h => retK_some h _ _ (by simp)
  simp [t0, t1, t2, t7, ea, eN, eR, hD, rD, Option.bind_assoc]
  refine safe_loop p hg (enc_len hz) (by omega) n x hx l hl H2.length _ (fun o => o = some _) ?_ (l.getD []).length 0 f a b z _ _ (by omega) ⟨by simp [t0], by simp [t2], by simp, by simp⟩ (by simp) (by simp) ga1 gb1 gz1 (fun _ => I0)
  intro σ2 H3
  simp [Vm.results]
end Go.Proofs.YtghidjgejmmcmaaW.Rg
