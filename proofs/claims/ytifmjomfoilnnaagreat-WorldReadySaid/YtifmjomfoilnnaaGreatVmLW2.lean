/- WorldReady. No conditions. -/
import Derived.Test.YtifmjomfoilnnaaGreatVmLW3
import Derived.Test.YtifmjomfoilnnaaGreatVmLW1
set_option linter.unusedVariables false
set_option linter.unusedSimpArgs false
set_option maxRecDepth 10000
namespace Go.Proofs.YtifmjomfoilnnaaGreatW.Rg
open Go.Proofs.YtifmjomfoilnnaaGreatW.Vm Go.Proofs.YtifmjomfoilnnaaGreatW.Md
open Go.Proofs.YtifmjomfoilnnaaGreatW.Rn (Ring encRing newRing noRing inb rf0)
open Go Go.Proofs
theorem refs_self {a b : Option (List Rf)} (h : a.getD [] = b.getD []) (hs : (a.getD []).length < 2 ^ 62) : fnc Tryz.prog cfg R 15 [encL 2 encRf a, encL 2 encRf b] = some (.bool true) := by
  have := refs_spec a b hs
  rw [dt h] at this; exact this
theorem ready_app (r : Ring) (x : Rf) : ∀ (l : List Ring) (c : List Rf), l.length = c.length → readyOf (l ++ [r]) (c ++ [x]) = readyOf l c ++ ((if x = noR then [] else [x]) ++ itemsO r)
  | [], [], _ => by simp [readyOf]
  | [], _ :: _, h => by simp at h
  | _ :: _, [], h => by simp at h
  | a :: l, b :: c, h => by
    have := ready_app r x l c (by simpa using h)
    simp only [List.cons_append, readyOf, this, List.append_assoc]
theorem ready_split : ∀ (l : List Ring) (c : List Rf) (n : Nat) (x : Rf), l.length = c.length → c[n]? = some x → x ≠ noR → ∃ X Y, readyOf l c = X ++ x :: Y ∧ readyOf l (c.set n noR) = X ++ Y
  | [], [], n, x, _, h, _ => by simp at h
  | [], _ :: _, _, _, h, _, _ => by simp at h
  | _ :: _, [], _, _, h, _, _ => by simp at h
  | a :: l, b :: c, 0, x, hl, h, hx => by
    simp only [List.getElem?_cons_zero, Option.some.injEq] at h
    subst h
    exact ⟨[], itemsO a ++ readyOf l c, by simp [readyOf, hx], by simp [readyOf]⟩
  | a :: l, b :: c, n + 1, x, hl, h, hx => by
    obtain ⟨X, Y, h1, h2⟩ := ready_split l c n x (by simpa using hl) (by simpa using h) hx
    refine ⟨(if b = noR then [] else [b]) ++ itemsO a ++ X, Y, ?_, ?_⟩
    · simp only [readyOf, h1, List.append_assoc]
    · simp only [List.set_cons_succ, readyOf, h2, List.append_assoc]
theorem expG_ring (inner : List D → Option (List D)) (H : List Ob) (r : Ring) : expG inner H (encRing r) = some (encRing r) := by
  obtain ⟨b, x, y, z⟩ := r
  cases b <;> rfl
theorem expsG_rings (inner : List D → Option (List D)) (H : List Ob) {x y : D} (h : expG inner H x = some y) : ∀ l : List Ring, expsG inner H (l.map encRing ++ [x]) = some (l.map encRing ++ [y])
  | [] => by simp [expsG, h]
  | r :: l => by
    rw [List.map_cons, List.cons_append]
    simp only [expsG]
    rw [expG_ring, expsG_rings inner H h l]; rfl
theorem cleans_app1 : ∀ (l : List D) (x : D), clean x = false → cleans (l ++ [x]) = false
  | [], x, h => by simp [cleans, h]
  | a :: l, x, h => by simp [cleans, cleans_app1 l x h]
/-- deques of which the last one's places are one's own -/
theorem exp_nest {H : List Ob} {d : D} {l : List Ring} {i v : Nat} {a b c : Int} {r : Rf} (h : IsS H 4 (l.map encRing ++ [.agg [.own 2 i v 0 1, I a, I b, I c]]) d) (hi : H[i]? = some ⟨v, 2, [encRf r], 0⟩) :
    exp1 H d = some (encL 4 encRing (some (l ++ [⟨some [r], a, b, c⟩]))) := by
  rcases h with ⟨rfl, hx⟩ | ⟨rfl, hx⟩ | ⟨id, ver, rest, rfl, hh⟩
  · simp at hx
  · simp at hx
  · have he : elsOf H (.own 4 id ver 0 (l.map encRing ++ [D.agg [.own 2 i v 0 1, I a, I b, I c]]).length) = some (l.map encRing ++ [D.agg [.own 2 i v 0 1, I a, I b, I c]]) := by
      rw [elsOf_own, hh, Option.bind_some, if_pos ⟨rfl, rfl, by simp⟩, List.drop_zero, List.take_left']
      rfl
    have hc : cleans (l.map encRing ++ [D.agg [.own 2 i v 0 1, I a, I b, I c]]) = false := cleans_app1 _ _ (by simp [clean, cleans])
    have e2 : elsOf H (.own 2 i v 0 1) = some [encRf r] := by
      rw [elsOf_own, hi, Option.bind_some, if_pos ⟨rfl, rfl, by simp⟩]; rfl
    have hx : expG (expI 1 H) H (.agg [.own 2 i v 0 1, I a, I b, I c]) = some (.agg [.sl 2 [encRf r] false, I a, I b, I c]) := by
      simp only [expG, expsG, e2, expI]
      simp
    have hy := expsG_rings (expI 1 H) H hx l
    have hcc : cleans (l.map encRing ++ [D.agg [.sl 2 [encRf r] false, I a, I b, I c]]) = true := by
      have : ∀ l : List Ring, cleans (l.map encRing ++ [D.agg [.sl 2 [encRf r] false, I a, I b, I c]]) = true := fun l => by
        induction l with
        | nil => simp [cleans, clean]
        | cons a l ih =>
          have h : ∀ b : Option (List Rf), clean (encL 2 encRf b) = true := fun b => by simp
          rw [List.map_cons, List.cons_append]
          simp [ih, h]
      exact this l
    rw [exp_ownI, he, Option.bind_some]
    have hI : expI 2 H (l.map encRing ++ [D.agg [.own 2 i v 0 1, I a, I b, I c]]) = some (l.map encRing ++ [D.agg [.sl 2 [encRf r] false, I a, I b, I c]]) := by
      show (if cleans (l.map encRing ++ [D.agg [.own 2 i v 0 1, I a, I b, I c]]) = true then _ else match expsG (expI 1 H) H (l.map encRing ++ [D.agg [.own 2 i v 0 1, I a, I b, I c]]) with | some ys => if cleans ys = true then some ys else none | none => none) = _
      rw [if_neg (by rw [hc]; decide), hy]
      simp only
      rw [if_pos hcc]
    rw [hI]
    simp [encL]
theorem rf0_eq : encRf rf0 = .agg [I 0, I 0] := rfl
/-- how many are ready -/
theorem count_loopW (w : Wd) (hl : w.cl.length = w.rl.length) (h60 : w.rl.length ≤ 60) (v5 : D) {X : Type} (K : Ex × St → Option X) (Q : Option X → Prop) : ∀ (rest : List Ring) (i acc : Nat) (σ : Nat → D), w.rl.drop i = rest → acc ≤ i * 1025 →
    σ 1 = σ 1 → σ 2 = .ptr 0 0 0 0 → σ 5 = v5 → σ 6 = I acc → σ 7 = I i →
    (∀ σ', σ' 1 = σ 1 → σ' 2 = .ptr 0 0 0 0 → σ' 5 = v5 → σ' 6 = I ((acc + (readyOf rest (w.cl.drop i)).length : Nat) : Int) → Q (K (.exit 0, ⟨σ', [⟨0, 19, [encW w], 0⟩], 164⟩))) →
    Q ((W Tryz.prog cfg (.loop (loopAt Tryz.f5 6)) ⟨σ, [⟨0, 19, [encW w], 0⟩], 164⟩).bind K)
  | [], i, acc, σ, hd, ha, _, s2, s5, s6, s7, hK => by
    have hrl : (w.rings.getD []).length = w.rl.length := rfl
    have hi : decide (i < w.rl.length) = false := df (by have := congrArg List.length hd; simp at this; omega)
    rw [Wloop]
    conv => arg 1; arg 1; arg 1; simp [loopAt, loopIn, headId, Tryz.f5, s2, s7, hrl, hi, -getElem?_pos]
    exact hK _ (by simp) (by simp [s2]) (by simp [s5]) (by simp [s6, readyOf])
  | r :: rest, i, acc, σ, hd, ha, _, s2, s5, s6, s7, hK => by
    obtain ⟨hg1, hd1, hi⟩ := drop_get hd
    have hrl : (w.rings.getD []).length = w.rl.length := rfl
    have hcl : (w.cur.getD []).length = w.cl.length := rfl
    have hlt : decide (i < w.rl.length) = true := dt hi
    have hx : idxD w.rl.length (I i) = some i := idxD_nat .i64 hi
    have hxc : idxD w.cl.length (I i) = some i := by rw [hl]; exact hx
    have hg1' : (w.rings.getD [])[i]? = some r := hg1
    obtain ⟨x, hgx⟩ : ∃ x, w.cl[i]? = some x := ⟨_, List.getElem?_eq_getElem (by omega)⟩
    have hgx' : (w.cur.getD [])[i]? = some x := hgx
    have hw : IntKind.i64.wrap ((i : Int) + 1) = ((i + 1 : Nat) : Int) := wr (by omega) (by omega)
    obtain ⟨oi, e1, r1⟩ := ritems_spec r
    have hil := itemsO_len r
    have hol : (oi.getD []).length = (itemsO r).length := by rw [r1]
    generalize hit : (itemsO r).length = it at *
    have hw2 : IntKind.i64.wrap ((acc : Int) + (it : Nat)) = ((acc + it : Nat) : Int) := wr (by omega) (by omega)
    have hw3 : IntKind.i64.wrap (((acc + it : Nat) : Int) + 1) = ((acc + it + 1 : Nat) : Int) := wr (by omega) (by omega)
    have hw3' : IntKind.i64.wrap ((acc : Int) + (it : Int) + 1) = ((acc + it + 1 : Nat) : Int) := by rw [← hw3]; congr 1
    have nr := rnone_spec
    have exr : ∀ (h : List Ob) (b : Option (List Rf)), exp1 h (encL 2 encRf b) = some (encL 2 encRf b) := fun h z => exp_clean (by simp) (by simp)
    rw [readyOf_drop, hgx] at hK
    have hdr := dr5_9
    simp [opsAt, opsIn, Tryz.f5] at hdr
    have w1 := Wdraw0 hdr
    clear hdr
    have nq := fun s t => neq_rf s t x noR
    by_cases hxn : x = noR
    · rw [dt hxn] at nq
      simp only [if_pos hxn, List.nil_append] at hK
      generalize noR = no' at *
      rw [Wloop]
      conv => arg 1; arg 1; arg 1; simp [loopAt, loopIn, headId, Tryz.f5, s2, s5, s6, s7, hrl, hcl, hlt, hx, hxc, hg1', hgx', e1, hol, hw, hw2, nr, nq, exr, w1, -getElem?_pos]
      rw [Option.bind_some, loopK_normal]
      refine count_loopW w hl h60 v5 K Q rest (i + 1) (acc + it) _ hd1 (by omega) rfl (by simp [s2]) (by simp [s5]) (by simp) (by simp) (fun σ' t1 t2 t5 t6 => hK σ' (by rw [t1]; simp) t2 t5 (by rw [t6, List.length_append, hit]; congr 2; omega))
    · rw [df hxn] at nq
      simp only [if_neg hxn] at hK
      have hlen3 : ([x] ++ itemsO r ++ readyOf rest (w.cl.drop (i + 1))).length = 1 + it + (readyOf rest (w.cl.drop (i + 1))).length := by simp [hit]; omega
      generalize noR = no' at *
      rw [Wloop]
      conv => arg 1; arg 1; arg 1; simp [loopAt, loopIn, headId, Tryz.f5, s2, s5, s6, s7, hrl, hcl, hlt, hx, hxc, hg1', hgx', e1, hol, hw, hw2, hw3, hw3', nr, nq, exr, w1, -getElem?_pos]
      rw [Option.bind_some, loopK_normal]
      refine count_loopW w hl h60 v5 K Q rest (i + 1) (acc + it + 1) _ hd1 (by omega) rfl (by simp [s2]) (by simp [s5]) (by simp) (by simp) (fun σ' t1 t2 t5 t6 => hK σ' (by rw [t1]; simp) t2 t5 (by rw [t6, hlen3]; congr 2; omega))
/-- all refs but one, one after the other -/
theorem gone_loop (X Y : List Rf) (c : Rf) (o1 o2 : Option (List Rf)) (h1 : o1.getD [] = X ++ c :: Y) (h2 : o2.getD [] = X ++ Y) (hs : (o1.getD []).length ≤ 2 ^ 30) (H : List Ob) {Z : Type} (K : Ex × St → Option Z) (Q : Option Z → Prop) : ∀ (m i g : Nat) (σ : Nat → D), i + m = (o1.getD []).length → (g = 0 ∨ (g = 1 ∧ X.length < i)) →
    σ 5 = encL 2 encRf o1 → σ 10 = encL 2 encRf o2 → σ 11 = I g → σ 12 = I i →
    (∀ σ', Q (K (.exit 2, ⟨σ', H, 164⟩))) →
    Q ((W Tryz.prog cfg (.loop (loopAt Tryz.f5 26)) ⟨σ, H, 164⟩).bind K) := by
  have hl12 : (o1.getD []).length = (o2.getD []).length + 1 := by rw [h1, h2]; simp; omega
  have hXl : X.length ≤ (o2.getD []).length := by rw [h2]; simp
  have lo : ∀ i, i < X.length → (o1.getD [])[i]? = (o2.getD [])[i]? := fun i hi => by rw [h1, h2, List.getElem?_append_left hi, List.getElem?_append_left hi]
  have hi' : ∀ i, X.length < i → (o1.getD [])[i]? = (o2.getD [])[i - 1]? := fun i hi => by
    rw [h1, h2, List.getElem?_append_right (by omega), List.getElem?_append_right (by omega)]
    obtain ⟨j, hj⟩ : ∃ j, i - X.length = j + 1 := ⟨i - X.length - 1, by omega⟩
    rw [hj, List.getElem?_cons_succ]; congr 1; omega
  intro m
  induction m with
  | zero =>
    intro i g σ hi hg s5 s10 s11 s12 hK
    have h0 : decide (i < (o1.getD []).length) = false := df (by omega)
    rw [Wloop]
    conv => arg 1; arg 1; arg 1; simp [loopAt, loopIn, headId, Tryz.f5, s5, s12, h0]
    exact hK _
  | succ m ih =>
    intro i g σ hi hg s5 s10 s11 s12 hK
    have hil : i < (o1.getD []).length := by omega
    have hlt : decide (i < (o1.getD []).length) = true := dt hil
    have hx := idxD_nat .i64 hil
    have hw : IntKind.i64.wrap ((i : Int) + 1) = ((i + 1 : Nat) : Int) := wr (by omega) (by omega)
    have hwi : IntKind.i64.wrap (i : Int) = (i : Int) := wr (by omega) (by omega)
    obtain ⟨a, ha⟩ : ∃ a, (o1.getD [])[i]? = some a := ⟨_, List.getElem?_eq_getElem hil⟩
    have hdr1 := dr5_28; have hdr2 := dr5_30
    simp [opsAt, opsIn, Tryz.f5] at hdr1 hdr2
    have w1 := Wdraw0 hdr1; have w2 := Wdraw0 hdr2
    clear hdr1 hdr2
    rcases hg with rfl | ⟨rfl, hgX⟩
    · by_cases hik : (o2.getD []).length ≤ i
      · have k1 : decide ((o2.getD []).length ≤ i) = true := dt hik
        rw [Wloop]
        conv => arg 1; arg 1; arg 1; simp [loopAt, loopIn, headId, Tryz.f5, s5, s10, s11, s12, hlt, k1, w1, w2, hw, -getElem?_pos]
        rw [Option.bind_some, loopK_normal]
        exact ih (i + 1) 1 _ (by omega) (.inr ⟨rfl, by omega⟩) (by simp [s5]) (by simp [s10]) (by simp) (by simp) hK
      · have hik' : i < (o2.getD []).length := by omega
        have k1 : decide ((o2.getD []).length ≤ i) = false := df hik
        have hx2 := idxD_nat .i64 hik'
        obtain ⟨b, hb⟩ : ∃ b, (o2.getD [])[i]? = some b := ⟨_, List.getElem?_eq_getElem hik'⟩
        have nq := fun s t => neq_rf s t a b
        by_cases hab : a = b
        · rw [dt hab] at nq
          rw [Wloop]
          conv => arg 1; arg 1; arg 1; simp [loopAt, loopIn, headId, Tryz.f5, s5, s10, s11, s12, hlt, k1, hx, hx2, ha, hb, nq, w1, w2, hw, hwi, -getElem?_pos]
          rw [Option.bind_some, loopK_normal]
          exact ih (i + 1) 0 _ (by omega) (.inl rfl) (by simp [s5]) (by simp [s10]) (by simp [s11]) (by simp) hK
        · rw [df hab] at nq
          have hXi : X.length ≤ i := by
            by_cases h : i < X.length
            · have := lo i h; rw [ha, hb] at this; exact absurd (Option.some.inj this) hab
            · omega
          rw [Wloop]
          conv => arg 1; arg 1; arg 1; simp [loopAt, loopIn, headId, Tryz.f5, s5, s10, s11, s12, hlt, k1, hx, hx2, ha, hb, nq, w1, w2, hw, -getElem?_pos]
          rw [Option.bind_some, loopK_normal]
          exact ih (i + 1) 1 _ (by omega) (.inr ⟨rfl, by omega⟩) (by simp [s5]) (by simp [s10]) (by simp) (by simp) hK
    · have hb : (o2.getD [])[i - 1]? = some a := by rw [← hi' i hgX, ha]
      have hik' : i - 1 < (o2.getD []).length := by omega
      have hx2 := idxD_nat .i64 hik'
      have hw1 : IntKind.i64.wrap ((i : Int) - 1) = ((i - 1 : Nat) : Int) := by rw [wr (by omega) (by omega)]; omega
      have nq := fun s t => neq_self s t a
      rw [Wloop]
      conv => arg 1; arg 1; arg 1; simp [loopAt, loopIn, headId, Tryz.f5, s5, s10, s11, s12, hlt, hx, ha, hw1, hx2, hb, nq, w1, w2, hw, -getElem?_pos]
      rw [Option.bind_some, loopK_normal]
      exact ih (i + 1) 1 _ (by omega) (.inr ⟨rfl, by omega⟩) (by simp [s5]) (by simp [s10]) (by simp [s11]) (by simp) hK
theorem frz_get : ∀ (ms : List (Nat × Nat)) (h : List Ob) (k : Nat) (o : Ob), h[k]? = some o → ∃ f, (frzAll h ms)[k]? = some ⟨o.ver, o.esz, o.els, f⟩ ∧ (frzAll h ms).length = h.length
  | [], h, k, o, ho => ⟨o.frz, by simpa [frzAll] using ho, rfl⟩
  | m :: ms, h, k, o, ho => by
    have e : frzAll h (m :: ms) = frzAll (frzOb h m) ms := rfl
    rw [e]
    have hk := (List.getElem?_eq_some_iff.1 ho).1
    have : ∃ o', (frzOb h m)[k]? = some o' ∧ o'.ver = o.ver ∧ o'.esz = o.esz ∧ o'.els = o.els ∧ (frzOb h m).length = h.length := by
      unfold frzOb
      cases hm : h[m.1]? with
      | none => exact ⟨o, ho, rfl, rfl, rfl, rfl⟩
      | some q =>
        by_cases hkm : m.1 = k
        · subst hkm
          rw [ho] at hm
          have := Option.some.inj hm
          subst this
          exact ⟨_, List.getElem?_set_self hk, rfl, rfl, rfl, by simp⟩
        · exact ⟨o, by simp only; rw [List.getElem?_set_ne hkm, ho], rfl, rfl, rfl, by simp⟩
    obtain ⟨o', h1, h2, h3, h4, h5⟩ := this
    obtain ⟨f, h6, h7⟩ := frz_get ms (frzOb h m) k o' h1
    exact ⟨f, by rw [h6, h2, h3, h4], by rw [h7, h5]⟩
theorem ret_keep (h : List Ob) (av : List D) (r : D) {k : Nat} {o : Ob} (ho : h[k]? = some o) : ∃ H' f, retK cfg h av r = some (r, H') ∧ H'.length = h.length ∧ H'[k]? = some ⟨o.ver, o.esz, o.els, f⟩ := by
  unfold retK
  split
  · exact ⟨h, o.frz, rfl, rfl, by rw [ho]⟩
  · rw [if_neg (fun h => by cases h.1)]
    obtain ⟨f, h1, h2⟩ := frz_get (markss h av) h k o ho
    exact ⟨_, f, rfl, h2, h1⟩
theorem bs_ringn (dst ty pos af g st ps) : opD Tryz.prog ⟨cfg.shared, cfg.ext, true, cfg.lit⟩ R ⟨dst, .buildSlice 33 1 ps, ty, pos, af, g⟩ st = (evps st.σ ps.toList).bind fun ds => (fillD 4 true (List.replicate 1 (.agg [.snil, I 0, I 0, I 0])) ds).map fun els => (.own 4 st.h.length 0 0 1, newOb st.h 4 els) :=
  op_bslice (P := Tryz.prog) (cfg := ⟨cfg.shared, cfg.ext, true, cfg.lit⟩) (run := R) dst ty pos af g st (z := 0) (n := 1) ps el33 sz54 ag54 ze54 rfl (by simp) (by decide) (by decide)
theorem mk_one (hp : List Ob) : makeSliceD Tryz.prog hp 34 (I 1) (I 1) = some (.own 2 hp.length 0 0 1, hp ++ [⟨0, 2, [encRf rf0], 0⟩]) :=
  mk_slice (P := Tryz.prog) el34 sz36 by36 ze36 (by simp) (by decide) (by decide) hp .i64 .i64 1 1 (by omega) (by omega) (by omega)
theorem set_map_rf {l : List Rf} {rest : List D} {n : Nat} (hn : n < l.length) (c : Rf) : (l.map encRf ++ rest).set n (encRf c) = (l.set n c).map encRf ++ rest := by
  rw [List.set_append_left _ _ (by simpa using hn), List.map_set]
theorem items_one : itemsO ⟨some [rf0], 0, 0, 1⟩ = [] := by decide
set_option maxHeartbeats 8000000 in
theorem ready13_law (w : Wd) (ok : okW w) (n : Int) : fnc Tryz.prog cfg R 5 [encW w, I n] = some (.bool true) := by
  have exv : ∀ (h : List Ob) (b : Option (List Fu)), exp1 h (encL 4 encFunc b) = some (encL 4 encFunc b) := fun h z => exp_clean (by simp) (by simp)
  have exc : ∀ (h : List Ob) (b : Option (List Ce)), exp1 h (encL 18 encCe b) = some (encL 18 encCe b) := fun h z => exp_clean (by simp) (by simp)
  have exi : ∀ (h : List Ob) (b : Option (List Int)), exp1 h (encL 1 I b) = some (encL 1 I b) := fun h z => exp_clean (by simp) (by simp)
  have exr : ∀ (h : List Ob) (b : Option (List Rf)), exp1 h (encL 2 encRf b) = some (encL 2 encRf b) := fun h z => exp_clean (by simp) (by simp)
  have exg : ∀ (h : List Ob) (b : Option (List Ring)), exp1 h (encL 4 encRing b) = some (encL 4 encRing b) := fun h z => exp_clean (by simp) (by simp)
  have hS := smallW_spec w (by have := ok.c; omega)
  have hrl : (w.rings.getD []).length = w.rl.length := rfl
  have hcl : (w.cur.getD []).length = w.cl.length := rfl
  obtain ⟨Q, hQ⟩ : ∃ Q : Option D → Prop, Q = fun o => o = some (.bool true) := ⟨_, rfl⟩
  rw [show (fnc Tryz.prog cfg R 5 [encW w, I n] = some (.bool true)) = Q (fnc Tryz.prog cfg R 5 [encW w, I n]) by rw [hQ]]
  rw [fnc_at rfl, body_eq Tryz.func5 rfl rfl]
  cases ks : smallW w <;> rw [ks] at hS
  · rw [hQ]; simp [argsσ, Vm.results, fixed13, hS, exv, exc, exi, exr, exg]
  obtain ⟨l1, l2, l3, l4, l5⟩ := smallW_len ks
  cases k60 : decide (60 < w.rl.length)
  case true =>
    have k60' : decide ((60 : Int) < (w.rl.length : Int)) = true := dt (by have := of_decide_eq_true k60; omega)
    rw [hQ]; simp [argsσ, Vm.results, fixed13, hS, hrl, k60, k60', exv, exc, exi, exr, exg]
  have k60' : decide ((60 : Int) < (w.rl.length : Int)) = false := df (by have := of_decide_eq_false k60; omega)
  cases kl : decide (w.cl.length = w.rl.length)
  case false =>
    have kl' : decide ((w.cl.length : Int) = (w.rl.length : Int)) = false := df (by have := of_decide_eq_false kl; omega)
    rw [hQ]; simp [argsσ, Vm.results, fixed13, hS, hrl, hcl, k60, k60', kl, kl', exv, exc, exi, exr, exg]
  have kl' : decide ((w.cl.length : Int) = (w.rl.length : Int)) = true := dt (by have := of_decide_eq_true kl; omega)
  have h60 := of_decide_eq_false k60
  have hl := of_decide_eq_true kl
  have hbr : ∀ r ∈ w.rl, r.l.length < 2 ^ 62 := fun r hr => by have := ok.rb r hr; omega
  obtain ⟨o, e5, ro⟩ := ready_spec w (by omega) hbr (by omega)
  obtain ⟨N, hN⟩ : ∃ N, (readyOf w.rl w.cl).length = N := ⟨_, rfl⟩
  have hNl := readyOf_len w.rl w.cl
  rw [hN] at hNl
  simp [argsσ, fixed13, hS, hrl, hcl, k60, k60', kl, kl', e5, exv, exc, exi, exr, exg, Option.bind_assoc]
  refine count_loopW w hl (by omega) (encL 2 encRf o) _ Q w.rl 0 0 _ rfl (by omega) rfl (by simp) (by simp) (by simp) (by simp) ?_
  intro σ' t1 t2 t5 t6
  simp [argsσ] at t1
  rw [List.drop_zero, Nat.zero_add, hN] at t6
  have hoN : (o.getD []).length = N := by rw [ro, hN]
  -- one worker more
  obtain ⟨d1, tt1, a1, i1, g1, _⟩ := appE (z := 4) (b := 48) [⟨0, 19, [encW w], 0⟩, ⟨0, 19, [encW w], 0⟩] ((w.rings.getD []).map encRing) (by rw [List.length_map, hrl]; omega)
  simp only [List.cons_append, List.nil_append] at a1 i1
  simp only [List.length_cons, List.length_nil] at g1
  obtain ⟨KT, hKT⟩ : ∃ K, (⟨0, 19, [encW w], 0⟩ : Ob) :: ⟨0, 19, [encW w], 0⟩ :: tt1 = K := ⟨_, rfl⟩
  rw [hKT] at a1 i1
  have hT2 : 2 ≤ KT.length := by rw [← hKT]; simp
  have x0 : KT[0]? = some ⟨0, 19, [encW w], 0⟩ := by rw [← hKT]; rfl
  have x1 : KT[1]? = some ⟨0, 19, [encW w], 0⟩ := by rw [← hKT]; rfl
  obtain ⟨d2, K2, a2, i2, b2, p2, m2⟩ := (i1.app [⟨0, 2, [encRf rf0], 0⟩, ⟨0, 4, [.agg [.own 2 KT.length 0 0 1, I 0, I 0, I 1]], 0⟩]).pushD 48 [.agg [.own 2 KT.length 0 0 1, I 0, I 0, I 1]] (by rw [List.length_map, hrl]; simp; omega)
  have s1 := (i1.app [⟨0, 2, [encRf rf0], 0⟩, ⟨0, 4, [.agg [.own 2 KT.length 0 0 1, I 0, I 0, I 1]], 0⟩]).els
  simp only [List.length_append, List.length_cons, List.length_nil] at b2 p2 m2
  have en : elsZ (KT ++ [⟨0, 2, [encRf rf0], 0⟩, ⟨0, 4, [.agg [.own 2 KT.length 0 0 1, I 0, I 0, I 1]], 0⟩]) 4 (.own 4 (KT.length + 1) 0 0 1) = some [.agg [.own 2 KT.length 0 0 1, I 0, I 0, I 1]] := by simp [elsZ, elsOf]
  have n1 := i1.one; have q1 := i1.cells; have n2 := i2.one; have q2 := i2.cells
  have lo2 : ∀ j, At d2 j → 2 ≤ j ∧ j ≠ KT.length := fun j hj => by
    rcases b2 j hj with h | h
    · have := g1 j h; have := i1.lt h; omega
    · omega
  have k2 : ∀ j, j < 2 ∨ j = KT.length → K2[j]? = (KT ++ [⟨0, 2, [encRf rf0], 0⟩, ⟨0, 4, [.agg [.own 2 KT.length 0 0 1, I 0, I 0, I 1]], 0⟩])[j]? := fun j hj => p2 j (by omega) (fun e => by have := g1 j e; have := i1.lt e; omega)
  have y0 : K2[0]? = some ⟨0, 19, [encW w], 0⟩ := by rw [k2 0 (by omega), List.getElem?_append_left (by omega), x0]
  have y1 : K2[1]? = some ⟨0, 19, [encW w], 0⟩ := by rw [k2 1 (by omega), List.getElem?_append_left (by omega), x1]
  have ym : K2[KT.length]? = some ⟨0, 2, [encRf rf0], 0⟩ := by rw [k2 _ (by omega)]; simp
  obtain ⟨K3, hK3⟩ : ∃ K, K2.set 1 ⟨0, 19, [encWo w (encL 18 encCe w.cs) d2 (encL 2 encRf w.cur)], 0⟩ = K := ⟨_, rfl⟩
  have h3l : K3.length = K2.length := by rw [← hK3]; simp
  have i23 : IsS K3 4 ((w.rings.getD []).map encRing ++ [.agg [.own 2 KT.length 0 0 1, I 0, I 0, I 1]]) d2 := by rw [← hK3]; exact i2.set (fun e => by have := lo2 1 e; omega) _
  have z0 : K3[0]? = some ⟨0, 19, [encW w], 0⟩ := by rw [← hK3, List.getElem?_set_ne (by omega), y0]
  have z1 : K3[1]? = some ⟨0, 19, [encWo w (encL 18 encCe w.cs) d2 (encL 2 encRf w.cur)], 0⟩ := by rw [← hK3]; exact List.getElem?_set_self (by omega)
  have zm : K3[KT.length]? = some ⟨0, 2, [encRf rf0], 0⟩ := by rw [← hK3, List.getElem?_set_ne (by omega), ym]
  obtain ⟨d3, tt3, C, K4, a3, a4, s3, iC, n3, q3, kC, mC, loC⟩ := twoE (z := 2) (b := 16) K3 ((w.cur.getD []).map encRf) [encRf noR] (by rw [List.length_map, hcl]; simp; omega)
  have nC := iC.one; have qC := iC.cells
  obtain ⟨KU, hKU⟩ : ∃ K, K3 ++ tt3 = K := ⟨_, rfl⟩
  rw [hKU] at a3 a4 s3
  have u0 : KU[0]? = some ⟨0, 19, [encW w], 0⟩ := by rw [← hKU, List.getElem?_append_left (by omega), z0]
  have v0 : K4[0]? = some ⟨0, 19, [encW w], 0⟩ := by rw [kC 0 (by omega), z0]
  have v1 : K4[1]? = some ⟨0, 19, [encWo w (encL 18 encCe w.cs) d2 (encL 2 encRf w.cur)], 0⟩ := by rw [kC 1 (by omega), z1]
  obtain ⟨K5, hK5⟩ : ∃ K, K4.set 1 ⟨0, 19, [encWo w (encL 18 encCe w.cs) d2 C], 0⟩ = K := ⟨_, rfl⟩
  have h5l : K5.length = K4.length := by rw [← hK5]; simp
  have w0 : K5[0]? = some ⟨0, 19, [encW w], 0⟩ := by rw [← hK5, List.getElem?_set_ne (by omega), v0]
  have w1 : K5[1]? = some ⟨0, 19, [encWo w (encL 18 encCe w.cs) d2 C], 0⟩ := by rw [← hK5]; exact List.getElem?_set_self (by omega)
  have wm : K5[KT.length]? = some ⟨0, 2, [encRf rf0], 0⟩ := by rw [← hK5, List.getElem?_set_ne (by omega), kC _ (by omega), zm]
  have i25 : IsS K5 4 (w.rl.map encRing ++ [.agg [.own 2 KT.length 0 0 1, I 0, I 0, I 1]]) d2 := by
    rw [← hK5]; exact (i23.keep fun i hi => kC i (i23.lt hi)).set (fun e => by have := lo2 1 e; omega) _
  have iC5 : IsS K5 2 ((w.cl ++ [noR]).map encRf) C := by rw [← hK5, List.map_append]; exact iC.set (fun e => by have := loC 1 e; omega) _
  have xe := exp_nest i25 wm
  obtain ⟨xC, yC⟩ := iC5.expO (cl_rfs _)
  obtain ⟨om, e6, rm⟩ := ready_spec { w with rings := some (w.rl ++ [⟨some [rf0], 0, 0, 1⟩]), cur := oS (w.cl ++ [noR]) C } (by show (w.rl ++ [_]).length ≤ _; simp; omega) (by
    show ∀ r ∈ w.rl ++ [_], _
    intro r hr
    rcases List.mem_append.1 hr with h | h
    · exact hbr r h
    · rw [List.mem_singleton.1 h]; show ([rf0] : List Rf).length < _; simp) (by show ((oS (w.cl ++ [noR]) C).getD []).length < _; rw [yC]; simp; omega)
  have rm2 : om.getD [] = readyOf w.rl w.cl := by
    rw [rm]
    show readyOf (w.rl ++ [_]) ((oS (w.cl ++ [noR]) C).getD []) = _
    rw [yC, ready_app _ _ _ _ hl.symm, if_pos rfl, items_one, List.nil_append, List.append_nil]
  have rq := refs_self (a := om) (b := o) (by rw [rm2, ro]) (by rw [rm2, hN]; omega)
  obtain ⟨KR, fz, hRT, hRl, hR0⟩ := ret_keep K5 [encWo w (encL 18 encCe w.cs) d2 C] (encL 2 encRf om) w0
  simp only at hR0
  generalize oS (w.cl ++ [noR]) C = oc at *
  have hdr12 := dr5_12; have hdr16 := dr5_16; have hdr20 := dr5_20
  simp [opsAt, opsIn, Tryz.f5] at hdr12 hdr16 hdr20
  have w12 := Wdraw0 hdr12; have w16 := Wdraw0 hdr16; have w20 := Wdraw0 hdr20
  clear hdr12 hdr16 hdr20
  have hrn := rnone_spec
  have hmk := mk_one
  rw [rf0_eq] at hmk a2 s1 en
  clear i1 b2 p2 k2 lo2 x0 x1 y0 ym i2 i23 zm kC loC iC i25 iC5 yC
  rcases (show decide (n < 0) = true ∨ (decide (n < 0) = false ∧ decide ((w.cl.length : Int) ≤ n) = true) ∨ (∃ m : Nat, n = m ∧ m < w.cl.length) by
    by_cases h1 : n < 0
    · exact .inl (dt h1)
    · by_cases h2 : (w.cl.length : Int) ≤ n
      · exact .inr (.inl ⟨df h1, dt h2⟩)
      · exact .inr (.inr ⟨n.toNat, by omega, by omega⟩)) with c | ⟨c, c'⟩ | ⟨m, rfl, hm⟩
  · rw [hQ]; simp [Vm.results, retK_flat, t1, t2, t5, t6, hKT, a1, s1, n1, q1, hmk, bs_ringn, List.replicate, a2, en, n2, q2, y1, hK3, z0, z1, hKU, a3, a4, s3, n3, q3, nC, qC, u0, v0, v1, hK5, w0, w1, xe, xC, e6, hRT, hR0, rq, hoN, hrn, hcl, c, w12, w16, exv, exc, exi, exr, exg, -List.map_append, -getElem?_pos]
  · rw [hQ]; simp [Vm.results, retK_flat, t1, t2, t5, t6, hKT, a1, s1, n1, q1, hmk, bs_ringn, List.replicate, a2, en, n2, q2, y1, hK3, z0, z1, hKU, a3, a4, s3, n3, q3, nC, qC, u0, v0, v1, hK5, w0, w1, xe, xC, e6, hRT, hR0, rq, hoN, hrn, hcl, c, c', w12, w16, exv, exc, exi, exr, exg, -List.map_append, -getElem?_pos]
  · have m1 : decide ((m : Int) < 0) = false := df (by omega)
    have m2' : decide (w.cl.length ≤ m) = false := df (by omega)
    have hxm : idxD w.cl.length (I m) = some m := idxD_nat .i64 hm
    obtain ⟨x, hgx⟩ : ∃ x, w.cl[m]? = some x := ⟨_, List.getElem?_eq_getElem hm⟩
    have hgx' : (w.cur.getD [])[m]? = some x := hgx
    have nq := fun s t => eq_rf s t x noR
    by_cases hxn : x = noR
    · rw [dt hxn] at nq
      generalize noR = no' at *
      rw [hQ]; simp [Vm.results, retK_flat, t1, t2, t5, t6, hKT, a1, s1, n1, q1, hmk, bs_ringn, List.replicate, a2, en, n2, q2, y1, hK3, z0, z1, hKU, a3, a4, s3, n3, q3, nC, qC, u0, v0, v1, hK5, w0, w1, xe, xC, e6, hRT, hR0, rq, hoN, hrn, hcl, m1, m2', hxm, hgx', nq, w12, w16, exv, exc, exi, exr, exg, -List.map_append, -getElem?_pos]
    rw [df hxn] at nq
    obtain ⟨K6, hK6⟩ : ∃ K, KR ++ [⟨0, 19, [encW w], 0⟩] = K := ⟨_, rfl⟩
    have ql : ∀ o : Ob, (KR ++ [o])[KR.length]? = some o := fun o => by simp
    have qs := sgx KR
    obtain ⟨C2, tt5, a5, i5, g5, _⟩ := appE (z := 2) (b := 16) K6 ((w.cur.getD []).map encRf) (by rw [List.length_map, hcl]; omega)
    obtain ⟨K7, hK7⟩ : ∃ K, K6 ++ tt5 = K := ⟨_, rfl⟩
    rw [hK7] at a5 i5
    have l6 : K6.length = KR.length + 1 := by rw [← hK6]; simp
    have l7 : K6.length ≤ K7.length := by rw [← hK7]; simp
    have f0 : K6[0]? = some ⟨0, 19, [encW w], fz⟩ := by rw [← hK6, List.getElem?_append_left (by omega), hR0]
    have fq : K7[KR.length]? = some ⟨0, 19, [encW w], 0⟩ := by rw [← hK7, List.getElem?_append_left (by omega), ← hK6]; simp
    obtain ⟨K8, hK8⟩ : ∃ K, K7.set KR.length ⟨0, 19, [encWo w (encL 18 encCe w.cs) (encL 4 encRing w.rings) C2], 0⟩ = K := ⟨_, rfl⟩
    have l8 : K8.length = K7.length := by rw [← hK8]; simp
    have gq : K8[KR.length]? = some ⟨0, 19, [encWo w (encL 18 encCe w.cs) (encL 4 encRing w.rings) C2], 0⟩ := by rw [← hK8]; exact List.getElem?_set_self (by omega)
    have i58 : IsS K8 2 ((w.cur.getD []).map encRf) C2 := by rw [← hK8]; exact i5.set (fun e => by have := g5 _ e; omega) _
    obtain ⟨id, ver, rest, hC2, hh, hel, hix⟩ := i58.ix (t := 34) un34 sz36 (i := m) (show m < (w.cur.getD []).length from hm)
    have hidl := (List.getElem?_eq_some_iff.1 hh).1
    have hid5 : K6.length ≤ id := g5 id (by rw [hC2]; rfl)
    have hel2 : ((w.cur.getD []).map encRf ++ rest)[m]? = some (encRf x) := by rw [List.getElem?_append_left (by rw [List.length_map]; exact hm), List.getElem?_map, hgx']; rfl
    have hml : m < ((w.cur.getD []).map encRf ++ rest).length := by rw [List.length_append, List.length_map, hcl]; omega
    have n5 := i5.one; have q5 := i5.cells
    have hq : ∀ o, (K8.set id o)[KR.length]? = some ⟨0, 19, [encWo w (encL 18 encCe w.cs) (encL 4 encRing w.rings) C2], 0⟩ := fun o => by rw [List.getElem?_set_ne (by omega), gq]
    have i9 : IsS (K8.set id ⟨ver, 2, ((w.cur.getD []).map encRf ++ rest).set m (encRf noR), 0⟩) 2 ((w.cl.set m noR).map encRf) C2 := by
      refine .inr (.inr ⟨id, ver, rest, by rw [hC2]; simp [hcl], ?_⟩)
      rw [List.getElem?_set_self hidl, set_map_rf (l := w.cur.getD []) hm]; rfl
    obtain ⟨x9, y9⟩ := i9.expO (cl_rfs _)
    obtain ⟨ok2, e7, rk⟩ := ready_spec { w with cur := oS (w.cl.set m noR) C2 } (by show w.rl.length ≤ _; omega) hbr (by show ((oS (w.cl.set m noR) C2).getD []).length < _; rw [y9]; simp; omega)
    have rk2 : ok2.getD [] = readyOf w.rl (w.cl.set m noR) := by rw [rk]; show readyOf w.rl ((oS (w.cl.set m noR) C2).getD []) = _; rw [y9]
    obtain ⟨XX, YY, sx, sy⟩ := ready_split w.rl w.cl m x hl.symm hgx hxn
    have hkN : (ok2.getD []).length + 1 = N := by rw [rk2, sy, ← hN, sx]; simp; omega
    obtain ⟨N', hN'⟩ : ∃ N', N = N' + 1 := ⟨_, hkN.symm⟩
    have hkN' : (ok2.getD []).length = N' := by omega
    have hwN : IntKind.i64.wrap (((N' + 1 : Nat) : Int) - 1) = (N' : Int) := by rw [wr (by omega) (by omega)]; omega
    have hwN' : IntKind.i64.wrap ((N' : Int) + 1 - 1) = (N' : Int) := by rw [wr (by omega) (by omega)]; omega
    have hwN'' : IntKind.i64.wrap (N' : Int) = (N' : Int) := wr (by omega) (by omega)
    rw [hN'] at hoN t6
    obtain ⟨KV, _, hRV, _, _⟩ := ret_keep (K8.set id ⟨ver, 2, ((w.cur.getD []).map encRf ++ rest).set m (encRf noR), 0⟩) [encWo w (encL 18 encCe w.cs) (encL 4 encRing w.rings) C2] (encL 2 encRf ok2) (hq _)
    generalize oS (w.cl.set m noR) C2 = oe at *
    generalize hLC : (w.cur.getD []).map encRf ++ rest = LC at *
    clear i9 y9 i58 i5
    simp [t1, t2, t5, t6, hKT, a1, s1, n1, q1, hmk, bs_ringn, List.replicate, a2, en, n2, q2, y1, hK3, z0, z1, hKU, a3, a4, s3, n3, q3, nC, qC, u0, v0, v1, hK5, w0, w1, xe, xC, e6, hRT, hR0, rq, hoN, hrn, hcl, m1, m2', hxm, hgx', nq, ql, qs, hK6, f0, a5, n5, q5, fq, hK8, gq, hix, hh, hel2, hml, hq, x9, e7, hRV, hkN', hwN, hwN', hwN'', retK_flat, w12, w16, w20, exv, exc, exi, exr, exg, Option.bind_assoc, -List.map_append, -getElem?_pos]
    refine gone_loop XX YY x o ok2 (by rw [ro, sx]) (by rw [rk2, sy]) (by omega) _ _ Q (N' + 1) 0 0 _ (by omega) (.inl rfl) (by simp [t5]) (by simp) (by simp) (by simp) ?_
    intro σ2
    rw [hQ]
    simp [Vm.results]
end Go.Proofs.YtifmjomfoilnnaaGreatW.Rg
