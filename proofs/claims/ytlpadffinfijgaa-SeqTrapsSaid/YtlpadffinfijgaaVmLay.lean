/- From a law over plain values to the given statement's contract. No conditions. -/
import Derived.Test.YtlpadffinfijgaaVmOpn
import Derived.Test.YtlpadffinfijgaaVmDraw3
import Derived.Carry
import Derived.OpenShut
import Derived.ChangeShapes
import Derived.ChangeAt
import Derived.SizedLaws
set_option linter.unusedVariables false
set_option linter.unusedSimpArgs false
namespace Go.Proofs.YtlpadffinfijgaaW.Vm
open Go Go.RowKit Go.ChangeShapes Go.WideShapes Go.ChangeAt
section
variable {P : Program}
/-- The arguments, as plain values. -/
def HasAll (P : Program) (K : Nat) : List TypeId → List D → Prop
  | [], xs => xs = []
  | t :: ts, xs => ∃ ds r, xs = toD P t ds :: r ∧ HasT P K t ds ∧ HasAll P K ts r

theorem okT_okWide {P : Program} {W : World} {base : Nat} {K : Nat} {t : TypeId} {v : Value} (hk : okT P K t = true) (hv : Value.okWide P W .any base t v) {ds : List D} (hd : RCs W (fun _ _ => False) ds v.cells.toList) (hh : HasT P K t ds) : RC W (fun _ _ => False) (toD P t ds) v := by
  cases K with
  | zero => cases hk
  | succ K =>
    unfold okT at hk
    unfold Value.okWide at hv
    unfold toD
    unfold HasT at hh
    split at hk
    · rename_i h
      rw [h] at hv hh ⊢
      unfold Cell.okWide Cell.ok at hv; rw [h] at hv
      obtain ⟨b, rfl⟩ := hh
      cases v <;> simp_all
      cases hd with | cons h r => exact h
    · rename_i h
      rw [h] at hv hh ⊢
      unfold Cell.okWide Cell.ok at hv; rw [h] at hv
      obtain ⟨b, rfl, _⟩ := hh
      cases v <;> simp_all
      cases hd with | cons h r => exact h
    · rename_i i h
      rw [h] at hv hh ⊢
      unfold Cell.okWide Cell.ok at hv; rw [h] at hv
      obtain ⟨b, rfl, _⟩ := hh
      cases v <;> simp_all
      cases hd with | cons h r => exact h
    · rename_i i h
      rw [h] at hv hh ⊢
      unfold Cell.okWide Cell.ok at hv; rw [h] at hv
      obtain ⟨b, rfl, _⟩ := hh
      cases v <;> simp_all
      cases hd with | cons h r => exact h
    · rename_i e h
      rw [h] at hv hh ⊢
      unfold Cell.okWide Cell.ok at hv; rw [h] at hv
      cases v <;> first | (simp_all; done) | skip
      rcases hh with rfl | ⟨ys, rfl, _⟩
      · cases hd with | cons h r => exact h
      · cases hd with | cons h r => exact h
    · rename_i fs h
      rw [h] at hv hh ⊢
      obtain ⟨cs, rfl, _⟩ := hv
      exact .agg hd
    · rename_i n e h
      rw [h] at hv hh ⊢
      obtain ⟨cs, rfl, _⟩ := hv
      exact .agg hd
    · cases hk

theorem opds {H : Type} {enc : TypeId × Value → H} {W : World} {base K : Nat} : ∀ {ts : List TypeId} {vs : List Value} {ds : List (DataW H)} {ps : List MemPlace}, DataW.TrodAll enc P W 0 (fun _ => true) true ts vs ds ps →
    (∀ t ∈ ts, okT P K t = true) → (∀ (j : Nat) t v, ts[j]? = some t → vs[j]? = some v → Value.okWide P W .any base t v) → (∀ n ∈ DataW.weightsEach P ts ds, n ≤ reachBytes) → ∃ xs, RCs W (fun _ _ => False) xs vs ∧ HasAll P K ts xs
  | [], [], [], _, _, _, _, _ => ⟨[], .nil, rfl⟩
  | t :: ts, v :: vs, d :: ds, ps, h, hk, hv, hw => by
    obtain ⟨p, q, ⟨m, h1⟩, h2, _⟩ := h
    obtain ⟨xs, hx1, hx2⟩ := opds h2 (fun t ht => hk t (by simp [ht])) (fun j t v h1 h2 => hv (j + 1) t v (by simpa using h1) (by simpa using h2))
      fun n hn => hw n (by simp only [DataW.weightsEach, List.mem_append]; exact .inr hn)
    obtain ⟨es, he1, _, he2⟩ := opd enc W K m t _ d p (hk t (by simp)) h1 fun n hn => hw n (by simp only [DataW.weightsEach, List.mem_append]; exact .inl hn)
    exact ⟨toD P t es :: xs, .cons (okT_okWide (hk t (by simp)) (hv 0 t v rfl rfl) he1 he2) hx1, es, xs, rfl, he2, hx2⟩
  | [], [], _ :: _, _, h, _, _, _ => by cases h
  | [], _ :: _, _, _, h, _, _, _ => by cases h
  | _ :: _, [], _, _, h, _, _, _ => by cases h
  | _ :: _, _ :: _, [], _, h, _, _, _ => by cases h

theorem weights_pre {H : Type} {n : Nat} {us : List TypeId} {es : List (DataW H)} : ∀ {ts : List TypeId} {ds : List (DataW H)}, n ∈ DataW.weightsEach P ts ds → n ∈ DataW.weightsEach P (ts ++ us) (ds ++ es)
  | [], _, h => by simp [DataW.weightsEach] at h
  | _ :: _, [], h => by simp [DataW.weightsEach] at h
  | t :: ts, d :: ds, h => by
    simp only [DataW.weightsEach, List.mem_append, List.cons_append] at h ⊢
    exact h.imp id weights_pre
theorem trods_stay {H : Type} {enc : TypeId × Value → H} (hl : laidOutB P = true) {W W' : World} (hb : Below W.heap.size W W') : ∀ {ts : List TypeId} {vs : List Value} {ds : List (DataW H)} {ps : List MemPlace},
    DataW.TrodAll enc P W 0 (fun _ => true) true ts vs ds ps → (∀ t ∈ ts, P.readableRec t = true ∧ t < P.types.size) → DataW.TrodAll enc P W' 0 (fun b => decide (b < W.heap.size)) true ts vs ds ps
  | [], [], [], _, h, _ => h
  | t :: ts, v :: vs, d :: ds, ps, h, hk => by
    obtain ⟨p, q, h1, h2, h3⟩ := h
    refine ⟨p, q, Below.trod hl (hk t (by simp)).1 (hk t (by simp)).2 h1 hb ?_, trods_stay hl hb h2 fun t ht => hk t (by simp [ht]), h3⟩
    obtain ⟨m, hm⟩ := h1
    exact DataW.trod_lt m _ _ _ hm
  | [], [], _ :: _, _, h, _ => by cases h
  | [], _ :: _, _, _, h, _ => by cases h
  | _ :: _, [], _, _, h, _ => by cases h
  | _ :: _, _ :: _, [], _, h, _ => by cases h
theorem trods_length {H : Type} {enc : TypeId × Value → H} {W : World} {sp : Nat → Bool} {hd : Bool} : ∀ {ts : List TypeId} {vs : List Value} {ds : List (DataW H)} {ps : List MemPlace},
    DataW.TrodAll enc P W 0 sp hd ts vs ds ps → ds.length = ts.length
  | [], [], [], _, h => rfl
  | t :: ts, v :: vs, d :: ds, ps, h => by
    obtain ⟨p, q, h1, h2, h3⟩ := h
    simp [trods_length h2]
  | [], [], _ :: _, _, h => by cases h
  | [], _ :: _, _, _, h => by cases h
  | _ :: _, [], _, _, h => by cases h
  | _ :: _, _ :: _, [], _, h => by cases h
end

/-- THE LAW's CALL, from the law over plain values. -/
theorem law_calls {H : Type} {enc : TypeId × Value → H} {P : Program} {f : FuncId} {fn : Func} {s : ChangeSpec} {cfg : Cfg} {K n : Nat} {bt : TypeId} (hl : laidOutB P = true)
    (hts : (fn.params.toList.all fun t => P.readableRec t && decide (t < P.types.size) && okT P K t) = true) (hn : fn.params.toList.length = n) (hres : fn.resultTypes = #[bt]) (hbt : P.underlying bt = some .bool) (hv : s.vars = [])
    (hs : ∀ ds : List (DataW H), ds.length = n → s.fn H (ds ++ []) = { results := [.lit (.bool true)], args := ds }) (hext : ExtOk P cfg) (hmix : P.follows .mixedOrders = true)
    (law : ∀ xs, HasAll P K fn.params.toList xs → ∃ k, fnc P cfg (exec P cfg k) f xs = some (.bool true))
    {W : World} {base : Nat} {args : Array Value} {ds gs : List (DataW H)} {before : List MemPlace} (hval : ∀ (j : Nat) t v, fn.params[j]? = some t → args[j]? = some v → Value.okWide P W .any base t v)
    (hW : DataW.Whole enc P fn.params.toList s.vars false W args.toList ds gs before)
    (hsz : (DataW.weightsEach P (fn.params.toList ++ s.plain.varTypes P) (ds ++ gs)).all (· ≤ reachBytes) = true) : Calls P f args W fun e W' => ∃ v, e = .returned v ∧ s.post enc P fn false true false false W args v W' := by
  have hW' := hW
  obtain ⟨p, q, hA, hV, rfl, hfz, hnd⟩ := hW
  rw [hv] at hV
  obtain ⟨rfl, rfl⟩ := trodVars_none hV
  rw [List.all_eq_true] at hts
  simp only [Bool.and_eq_true, decide_eq_true_eq] at hts
  obtain ⟨xs, hx1, hx2⟩ := opds hA (fun t ht => (hts t ht).2) (fun j t v h1 h2 => hval j t v (by simpa using h1) (by simpa using h2))
    (fun n hn => by simpa using List.all_eq_true.1 hsz n (weights_pre hn))
  obtain ⟨k, hk⟩ := law xs hx2
  refine (fnc_calls hext hmix hk (fun _ _ h => h.elim) hx1).mono fun e W' ⟨v, he, bel, _, hr⟩ => ?_
  obtain rfl : v = .bool true := by cases hr; rfl
  have hsf := hs ds (by rw [trods_length hA, hn])
  refine ⟨_, he, ds, [], _, [], p, [], hW', ?_, ?_, ?_, ?_, fun h => by cases h⟩
  · rw [hsf, hres]; exact trodAll_mk1 (shut_bool hbt _)
  · rw [hsf]; exact trods_stay hl bel hA fun t ht => ⟨(hts t ht).1.1, (hts t ht).1.2⟩
  · rw [hsf, hv]; rfl
  · exact bel.frame _
end Go.Proofs.YtlpadffinfijgaaW.Vm
