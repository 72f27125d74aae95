/- A region whose order is open, and the whole machine: it answers as the model does. No conditions. -/
import Derived.Test.YtlpadffinfijgaaVmDraw2
set_option linter.unusedVariables false
set_option linter.unusedSimpArgs false
namespace Go.Proofs.YtlpadffinfijgaaW.Vm
open Go Go.RowKit

section
variable {P : Program} {cfg : Cfg} {run : Run} {ops : Array Oper} {un : List (Nat × Nat)} {st st' : St} {tr : Nat → St} {ds : List Deferred} {c0 c : Cx} {S : Nat → Bool} {q : Nat} {a : Act}

theorem Inv.done (T : Trace P cfg run ops un st st' tr) (hlen : RunLen run) (I : Inv ds P cfg ops st st' tr c0 S q c a) (hall : ∀ j, j < ops.size → S j = true) : Step c0 st.h c st'.h ∧ SR ds c st' a := by
  have hag : Ag c st'.h := by
    rw [← T.tn]
    refine I.agree T hlen (Nat.le_refl _) I.q2 fun x y h1 h2 hy => ?_
    cases hl : loud P cfg y with
    | false => rfl
    | true => have := (I.q1 x y hy hl).1 (hall x h2); omega
  have hle : st.h.length ≤ st'.h.length := by rw [← T.t0, ← T.tn]; exact T.h_mono hlen _ (by omega) (Nat.le_refl _)
  refine ⟨⟨I.hr, I.ext, hag, I.hd, I.bel, hle, I.he⟩, I.df, ?_, fun t => ?_, hag⟩
  · rw [I.sz, ← T.tn, T.n_eq _ (Nat.le_refl _)]
  · have := I.tmp t
    rw [T.tv_all ops.size (Nat.le_refl _) fun j hj _ => hall j hj, T.tn] at this
    exact this

/-- how many have not run -/
def left (n : Nat) (S : Nat → Bool) : Nat := ((List.range n).filter fun j => !S j).length
theorem left_zero {n : Nat} {S : Nat → Bool} (h : left n S = 0) : ∀ j, j < n → S j = true := by
  intro j hj
  unfold left at h
  rw [List.length_eq_zero_iff, List.filter_eq_nil_iff] at h
  have := h j (List.mem_range.2 hj)
  simpa using this
theorem left_set {n i : Nat} {S : Nat → Bool} (hi : i < n) (hS : S i = false) : left n (fun j => if j = i then true else S j) + 1 = left n S := by
  unfold left
  have : ∀ l : List Nat, l.Nodup → i ∈ l → (l.filter fun j => !(if j = i then true else S j)).length + 1 = (l.filter fun j => !S j).length := by
    intro l
    induction l with
    | nil => intro _ h; simp at h
    | cons x l ih =>
      intro hn hm
      rw [List.nodup_cons] at hn
      rcases List.mem_cons.1 hm with rfl | hm
      · have : (l.filter fun j => !(if j = i then true else S j)) = l.filter fun j => !S j := by
          apply List.filter_congr
          intro y hy
          have : y ≠ i := fun e => hn.1 (e ▸ hy)
          simp [this]
        rw [List.filter_cons_of_neg (by simp), List.filter_cons_of_pos (by simp [hS]), this, List.length_cons]
      · have hxi : x ≠ i := fun e => hn.1 (e ▸ hm)
        have := ih hn.2 hm
        by_cases hsx : S x = true
        · rw [List.filter_cons_of_neg (by simp [hxi, hsx]), List.filter_cons_of_neg (by simp [hsx])]; exact this
        · rw [List.filter_cons_of_pos (by simp [hxi, hsx]), List.filter_cons_of_pos (by simp [hsx]), List.length_cons, List.length_cons]; omega
  exact this _ List.nodup_range (List.mem_range.2 hi)

theorem any_ok (T : Trace P cfg run ops un st st' tr) (hinfo : Info P cfg ops un) (hrun : RunOk P run) (hlen : RunLen run) (hext : ExtOk P cfg) {Q : Exit → Act → World → Prop}
    (hQ : ∀ c a, Step c0 st.h c st'.h → SR ds c st' a → Q .normal a c.w) : ∀ (fuel : Nat) {listed : Array Bool} {q : Nat} {c : Cx} {a : Act}, listed.size = ops.size → left ops.size (fun j => listed.getD j false) = fuel →
    Inv ds P cfg ops st st' tr c0 (fun j => listed.getD j false) q c a → wpAny P .any ops Q fuel listed a c.w
  | 0, listed, q, c, a, hsz, hf, I => by
    have hall := left_zero hf
    obtain ⟨h1, h2⟩ := I.done T hlen hall
    refine ⟨?_, hQ c a h1 h2⟩
    rw [List.eq_nil_iff_forall_not_mem]
    intro j hj
    rw [mem_ready] at hj
    obtain ⟨h3, o, ho, _⟩ := hj
    have hlt : j < ops.size := (Array.getElem?_eq_some_iff.1 ho).1
    have := hall j hlt
    have hl : j < listed.size := by omega
    simp [hl] at h3 this
    rw [this] at h3; cases h3
  | fuel + 1, listed, q, c, a, hsz, hf, I => by
    -- the least that has not run can run
    have hne : ∃ i, i < ops.size ∧ listed.getD i false = false ∧ ∀ j, j < i → listed.getD j false = true := by
      have hex : ∃ j, j < ops.size ∧ listed.getD j false = false := by
        by_cases h : ∃ j, j < ops.size ∧ listed.getD j false = false
        · exact h
        · exfalso
          have : left ops.size (fun j => listed.getD j false) = 0 := by
            unfold left
            rw [List.length_eq_zero_iff, List.filter_eq_nil_iff]
            intro j hj
            cases hv : listed.getD j false with
            | true => show ¬ ((!(listed.getD j false)) = true); rw [hv]; simp
            | false => exact absurd ⟨j, List.mem_range.1 hj, hv⟩ h
          omega
      obtain ⟨j, hj1, hj2⟩ := hex
      have : ∀ n j, j ≤ n → j < ops.size → listed.getD j false = false → ∃ i, i < ops.size ∧ listed.getD i false = false ∧ ∀ k, k < i → listed.getD k false = true := by
        intro n
        induction n with
        | zero => intro j hj h1 h2; exact ⟨j, h1, h2, fun k hk => by omega⟩
        | succ n ih =>
          intro j hj h1 h2
          by_cases h : ∃ k, k < j ∧ listed.getD k false = false
          · obtain ⟨k, hk1, hk2⟩ := h
            exact ih k (by omega) (by omega) hk2
          · refine ⟨j, h1, h2, fun k hk => ?_⟩
            cases hv : listed.getD k false with
            | true => rfl
            | false => exact absurd ⟨k, hk, hv⟩ h
      exact this j j (Nat.le_refl _) hj1 hj2
    refine ⟨fun hnil => ?_, fun i hi => ?_⟩
    · exfalso
      obtain ⟨i, h1, h2, h3⟩ := hne
      have hm : i ∈ Region.ready .any ops listed := by
        rw [mem_ready]
        have hl : i < listed.size := by omega
        refine ⟨by simp [hl] at h2 ⊢; exact h2, ops[i], Array.getElem?_eq_getElem h1, fun e he hb => h3 _ (hinfo.on i _ (Array.getElem?_eq_getElem h1) e he hb)⟩
      rw [hnil] at hm; cases hm
    · rw [mem_ready] at hi
      obtain ⟨h1, o, ho, h2⟩ := hi
      have hlt : i < ops.size := (Array.getElem?_eq_some_iff.1 ho).1
      have hl : i < listed.size := by omega
      have hS : (fun j => listed.getD j false) i = false := by simp [hl] at h1 ⊢; exact h1
      have hrdy : ∀ k, ((Region.before ops).getD i 0).testBit k = true → (fun j => listed.getD j false) k = true := by
        intro k hk
        obtain ⟨e, he, hb, h3⟩ := before_get hinfo.on ho hk
        have := h2 e he hb
        rcases h3 with h3 | h3
        · rw [← h3]; exact this
        · exact I.down _ this k h3
      refine wpOp_mono ?_ (I.go T hinfo hrun hlen hext ho hS hrdy)
      rintro a' w' ⟨c', q', rfl, I'⟩
      have hfun : (fun j => (listed.setIfInBounds i true).getD j false) = fun j => if j = i then true else listed.getD j false := by
        funext j
        by_cases hji : j = i
        · subst hji; simp [hl]
        · rw [if_neg hji, getD_set_ne false (Ne.symm hji)]
      have hleft := left_set (n := ops.size) (S := fun j => listed.getD j false) hlt hS
      refine any_ok T hinfo hrun hlen hext hQ fuel (by simpa using hsz) ?_ (by rw [hfun]; exact I')
      rw [hfun]
      omega

theorem hs_ext {c : Cx} (hr : HR c) (hs' : Nat → Option Ob) (h1 : ∀ id o, c.hs id = some o → hs' id = some o) : HR { c with hs := hs' } ∧ Ext c { c with hs := hs' } := by
  have hlive : ∀ b off, ¬ live c b off → ¬ live { c with hs := hs' } b off := by
    rintro b off h (h' | ⟨id, base, o, hm, ho, hle⟩)
    · exact h (.inl h')
    · obtain ⟨o', _, _, k1, _⟩ := hr.ob id b base hm
      have := h1 id o' k1
      have ho' : hs' id = some o := ho
      rw [this] at ho'; cases ho'
      exact h (.inr ⟨id, base, _, hm, k1, hle⟩)
  have hext : Ext c { c with hs := hs' } := ⟨rfl, rfl, Nat.le_refl _, fun _ _ => rfl, fun b off u k1 k2 => ⟨k1, hlive b off k2⟩, fun id o ho => ⟨o, h1 id o ho, .inr ⟨rfl, rfl, rfl, fun _ h => h⟩⟩⟩
  refine ⟨⟨hr.n0, hr.ge, hr.inj, fun id b base hm => ?_⟩, hext⟩
  obtain ⟨o, cells, e, k1, k2, k3, k4, k5⟩ := hr.ob id b base hm
  exact ⟨o, cells, e, h1 id o k1, k2, k3, k4, fun i d hd => (k5 i d hd).ext hext (fun _ _ _ hm => hr.lt hm) fun j u _ hu => hu⟩

open Classical in
theorem draw_ok (hext : ExtOk P cfg) (hmix : P.follows .mixedOrders = true) : DrawOk P cfg := by
  intro run hrun hlen id ops st st' h ds c a hr hs hfree
  obtain ⟨un, hinfo, tr, T⟩ := trace_of h
  refine wp_region_any hmix ?_
  have hdrew : Below c.w.heap.size c.w c.w.drew := (Below.refl _ _).drew
  -- the world has drawn
  have hs1 := later_step hr hs.2.2.2 hdrew
  -- the objects that will be laid, told ahead
  let hs' : Nat → Option Ob := fun id => if hx : ∃ i x, ops[i]? = some x ∧ isA cfg x = true ∧ wantD ops x (tr i).σ = some true ∧ id = (tr i).h.length then (tr (hx.choose + 1)).h[id]? else c.hs id
  have hrange : ∀ (i : Nat) x, ops[i]? = some x → isA cfg x = true → wantD ops x (tr i).σ = some true → st.h.length ≤ (tr i).h.length ∧ (tr i).h.length < st'.h.length ∧ (tr (i + 1)).h.length = (tr i).h.length + 1 := by
    intro i x hx hA hw
    have hi : i < ops.size := (Array.getElem?_eq_some_iff.1 hx).1
    have h1 : st.h.length ≤ (tr i).h.length := by rw [← T.t0]; exact T.h_mono hlen _ (by omega) (by omega)
    have h2 : (tr (i + 1)).h.length ≤ st'.h.length := by rw [← T.tn]; exact T.h_mono hlen _ (by omega) (Nat.le_refl _)
    rcases calm (T.step i x hx) (by unfold isA at hA; unfold loud isE; split at hA <;> simp_all) with ⟨_, h3⟩ | ⟨_, _, z, els, h3⟩
    · exact absurd ⟨hA, hw⟩ h3
    · have : (tr (i + 1)).h.length = (tr i).h.length + 1 := by rw [h3]; simp [newOb]
      exact ⟨h1, by omega, this⟩
  have huniq : ∀ (i j : Nat) x y, ops[i]? = some x → isA cfg x = true → wantD ops x (tr i).σ = some true → ops[j]? = some y → (tr i).h.length = (tr j).h.length → (tr j).h.length < (tr (j + 1)).h.length → i = j := by
    intro i j x y hx hA hw hy he hlt
    have hi : i < ops.size := (Array.getElem?_eq_some_iff.1 hx).1
    have hj : j < ops.size := (Array.getElem?_eq_some_iff.1 hy).1
    rcases Nat.lt_trichotomy i j with h | h | h
    · have := T.h_mono hlen j (show i + 1 ≤ j by omega) (by omega)
      have := (hrange i x hx hA hw).2.2
      omega
    · exact h
    · have := T.h_mono hlen i (show j + 1 ≤ i by omega) (by omega)
      omega
  have hpre : ∀ id o, c.hs id = some o → hs' id = some o := by
    intro id o ho
    simp only [hs']
    split
    · rename_i hx
      obtain ⟨i, x, hx1, hx2, hx3, hx4⟩ := hx
      obtain ⟨r1, r2, _⟩ := hrange i x hx1 hx2 hx3
      rw [(hfree id (by omega) (by omega)).2] at ho; cases ho
    · exact ho
  obtain ⟨hr2, hext2⟩ := hs_ext (c := { c with w := c.w.drew }) hs1.hr hs' hpre
  have hS0 : (fun j => (Array.replicate ops.size false).getD j false) = fun _ => false := by
    funext j
    simp [Array.getElem?_replicate]
    split <;> rfl
  have hnone : ∀ id, st.h.length ≤ id → id < st'.h.length → c.μ id = none := fun id h1 h2 => (hfree id h1 h2).1
  have htv : ∀ n t, tvN ops tr st (fun _ => false) n t = st.σ t := by
    intro n t
    induction n with
    | zero => rfl
    | succ n ih => rw [tvN, if_neg (by simp), ih]
  have I : Inv ds P cfg ops st st' tr c (fun j => (Array.replicate ops.size false).getD j false) 0 { c with w := c.w.drew, hs := hs' } a := by
    rw [hS0]
    refine ⟨hr2, hs1.ext.trans hext2, hs1.bel, hs.1, hs.2.1, fun t => ?_, by simp, by simp, by simp, by omega, .inl rfl, fun id hid => ?_, fun i x hx hA hw _ => ⟨?_, fun _ => ?_⟩, fun j y hy hl _ id h1 h2 => ⟨?_, ?_⟩, fun id hid => ⟨?_, rfl⟩, fun id _ hm => hm⟩
    · rw [htv]; exact (hs1.rv hr (hs.2.2.1 t)).ext hext2 (fun _ _ _ hm => hs1.hr.lt hm)
    · rw [T.t0] at hid ⊢
      show hs' id = _
      have := hs.2.2.2 id hid
      rw [← this]
      simp only [hs']
      rw [dif_neg]
      rintro ⟨i, x, hx1, hx2, hx3, hx4⟩
      have := (hrange i x hx1 hx2 hx3).1
      omega
    · show hs' _ = _
      simp only [hs']
      have hex : ∃ j y, ops[j]? = some y ∧ isA cfg y = true ∧ wantD ops y (tr j).σ = some true ∧ (tr i).h.length = (tr j).h.length := ⟨i, x, hx, hA, hw, rfl⟩
      rw [dif_pos hex]
      obtain ⟨y, hy1, hy2, hy3, hy4⟩ := hex.choose_spec
      have : hex.choose = i := huniq _ i y x hy1 hy2 hy3 hx hy4.symm (by have := (hrange i x hx hA hw).2.2; omega)
      rw [this]
    · exact hnone _ (hrange i x hx hA hw).1 (hrange i x hx hA hw).2.1
    · have hj : j < ops.size := (Array.getElem?_eq_some_iff.1 hy).1
      have e1 : st.h.length ≤ (tr j).h.length := by rw [← T.t0]; exact T.h_mono hlen _ (by omega) (by omega)
      have e2 : (tr (j + 1)).h.length ≤ st'.h.length := by rw [← T.tn]; exact T.h_mono hlen _ (by omega) (Nat.le_refl _)
      show hs' id = none
      simp only [hs']
      rw [dif_neg]
      · exact (hfree id (by omega) (by omega)).2
      · rintro ⟨i, x, hx1, hx2, hx3, hx4⟩
        have hi : i < ops.size := (Array.getElem?_eq_some_iff.1 hx1).1
        have hne : i ≠ j := by
          rintro rfl
          rw [hy] at hx1; cases hx1
          unfold isA at hx2; unfold loud isE at hl; split at hx2 <;> simp_all
        rcases Nat.lt_or_gt_of_ne hne with h | h
        · have := T.h_mono hlen j (show i + 1 ≤ j by omega) (by omega)
          have := (hrange i x hx1 hx2 hx3).2.2
          omega
        · have := T.h_mono hlen i (show j + 1 ≤ i by omega) (by omega)
          omega
    · have hj : j < ops.size := (Array.getElem?_eq_some_iff.1 hy).1
      have e1 : st.h.length ≤ (tr j).h.length := by rw [← T.t0]; exact T.h_mono hlen _ (by omega) (by omega)
      have e2 : (tr (j + 1)).h.length ≤ st'.h.length := by rw [← T.tn]; exact T.h_mono hlen _ (by omega) (Nat.le_refl _)
      exact hnone id (by omega) (by omega)
    · show hs' id = c.hs id
      simp only [hs']
      rw [dif_neg]
      rintro ⟨i, x, hx1, hx2, hx3, hx4⟩
      have := (hrange i x hx1 hx2 hx3).2.1
      omega
  have := any_ok T hinfo hrun hlen hext (Q := Good ds c st .normal st') (fun c2 a2 h1 h2 => ⟨rfl, c2, rfl, h1, h2⟩) ops.size (by simp) (by rw [hS0]; unfold left; rw [List.filter_eq_self.2 (by simp)]; simp) I
  exact this

/-- WHAT THE MACHINE ANSWERS, THE MODEL DOES. -/
theorem fnc_calls (hext : ExtOk P cfg) (hmix : P.follows .mixedOrders = true) {k : Nat} {f : FuncId} {args : List D} {r : D} (hf : fnc P cfg (exec P cfg k) f args = some r) {w : World} {L : Nat → Nat → Prop} (hL : ∀ b off, L b off → b < w.heap.size)
    {vs : Array Value} (ha : RCs w L args vs.toList) : Calls P f vs w fun e w' => ∃ v, e = .returned v ∧ Below w.heap.size w w' ∧ clean r = true ∧ RC w' L r v :=
  (fnc_ok (exec_ok hext (draw_ok hext hmix) k).1 hext hf hL ha).2
end
end Go.Proofs.YtlpadffinfijgaaW.Vm
