/- The machine of plain values, one step at a time, for simp: what comes behind a step is opened when the step is known. No conditions. -/
import Derived.Test.YtlpadffinfijgaaVmS
set_option linter.unusedVariables false
set_option linter.unusedSimpArgs false
namespace Go.Proofs.YtlpadffinfijgaaW.Vm
open Go
/-! plain values -/
@[simp] theorem one_int (k n) : D.one (.int k n) = true := by simp only [D.one]
@[simp] theorem one_bool (b) : D.one (.bool b) = true := by simp only [D.one]
@[simp] theorem one_str (b) : D.one (.str b) = true := by simp only [D.one]
@[simp] theorem one_flt (k b) : D.one (.flt k b) = true := by simp only [D.one]
@[simp] theorem one_cpx (k a b) : D.one (.cpx k a b) = true := by simp only [D.one]
@[simp] theorem one_agg (b) : D.one (.agg b) = false := by simp only [D.one]
@[simp] theorem one_tup (b) : D.one (.tup b) = false := by simp only [D.one]
@[simp] theorem one_nil : D.one .nil = true := by simp only [D.one]
@[simp] theorem one_snil : D.one .snil = true := by simp only [D.one]
@[simp] theorem one_nilf : D.one .nilf = true := by simp only [D.one]
@[simp] theorem one_nili : D.one .nili = true := by simp only [D.one]
@[simp] theorem one_und : D.one .und = false := by simp only [D.one]
@[simp] theorem one_ptr (a b c d) : D.one (.ptr a b c d) = true := by simp only [D.one]
@[simp] theorem one_fptr (a b c d) : D.one (.fptr a b c d) = true := by simp only [D.one]
@[simp] theorem one_sl (a b c) : D.one (.sl a b c) = true := by simp only [D.one]
@[simp] theorem one_own (a b c d e) : D.one (.own a b c d e) = true := by simp only [D.one]
@[simp] theorem one_ifc (a b) : D.one (.ifc a b) = true := by simp only [D.one]
@[simp] theorem cells_agg (b) : D.cells (.agg b) = b := by simp only [D.cells]
@[simp] theorem cells_int (k n) : D.cells (.int k n) = [.int k n] := by simp only [D.cells]
@[simp] theorem cells_bool (b) : D.cells (.bool b) = [.bool b] := by simp only [D.cells]
@[simp] theorem cells_str (b) : D.cells (.str b) = [.str b] := by simp only [D.cells]
@[simp] theorem cells_flt (k b) : D.cells (.flt k b) = [.flt k b] := by simp only [D.cells]
@[simp] theorem cells_cpx (k a b) : D.cells (.cpx k a b) = [.cpx k a b] := by simp only [D.cells]
@[simp] theorem cells_nil : D.cells (.nil) = [.nil] := by simp only [D.cells]
@[simp] theorem cells_snil : D.cells (.snil) = [.snil] := by simp only [D.cells]
@[simp] theorem cells_nilf : D.cells (.nilf) = [.nilf] := by simp only [D.cells]
@[simp] theorem cells_nili : D.cells (.nili) = [.nili] := by simp only [D.cells]
@[simp] theorem cells_ptr (a b c d) : D.cells (.ptr a b c d) = [.ptr a b c d] := by simp only [D.cells]
@[simp] theorem cells_fptr (a b c d) : D.cells (.fptr a b c d) = [.fptr a b c d] := by simp only [D.cells]
@[simp] theorem cells_sl (a b c) : D.cells (.sl a b c) = [.sl a b c] := by simp only [D.cells]
@[simp] theorem cells_own (a b c d e) : D.cells (.own a b c d e) = [.own a b c d e] := by simp only [D.cells]
@[simp] theorem cells_ifc (a b) : D.cells (.ifc a b) = [.ifc a b] := by simp only [D.cells]
theorem cells_one {d : D} (h : d.one = true) : d.cells = [d] := by cases d <;> first | rfl | (cases h; done)
@[simp] theorem lenS_snil : lenS .snil = some 0 := rfl
@[simp] theorem lenS_sl (z xs t) : lenS (.sl z xs t) = some xs.length := rfl
@[simp] theorem lenS_own (z a b c d) : lenS (.own z a b c d) = some d := rfl
@[simp] theorem elsZ_snil (h s) : elsZ h s .snil = some [] := rfl
@[simp] theorem elsZ_sl (h z xs t) : elsZ h z (.sl z xs t) = some xs := by simp [elsZ]
theorem elsZ_own (h z id ver off len) : elsZ h z (.own z id ver off len) = elsOf h (.own z id ver off len) := by simp [elsZ]
theorem elsOf_own (h z id ver off len) : elsOf h (.own z id ver off len) = (h[id]?).bind fun o => if o.ver = ver ∧ o.esz = z ∧ off + len ≤ o.els.length then some ((o.els.drop off).take len) else none := by
  simp only [elsOf]; cases h[id]? <;> rfl
@[simp] theorem clean_int (k n) : clean (.int k n) = true := by simp [clean]
@[simp] theorem clean_bool (b) : clean (.bool b) = true := by simp [clean]
@[simp] theorem clean_str (b) : clean (.str b) = true := by simp [clean]
@[simp] theorem clean_agg (b) : clean (.agg b) = cleans b := by simp [clean]
@[simp] theorem clean_tup (b) : clean (.tup b) = cleans b := by simp [clean]
@[simp] theorem clean_snil : clean .snil = true := by simp [clean]
@[simp] theorem clean_sl (a b c) : clean (.sl a b c) = true := by simp [clean]
@[simp] theorem clean_flt (a b) : clean (.flt a b) = true := by simp [clean]
@[simp] theorem clean_cpx (a b c) : clean (.cpx a b c) = true := by simp [clean]
@[simp] theorem clean_nil : clean .nil = true := by simp [clean]
@[simp] theorem clean_nilf : clean .nilf = true := by simp [clean]
@[simp] theorem clean_nili : clean .nili = true := by simp [clean]
@[simp] theorem clean_own (a b c d e) : clean (.own a b c d e) = false := by simp [clean]
@[simp] theorem clean_ptr (a b c d) : clean (.ptr a b c d) = false := by simp [clean]
@[simp] theorem clean_und : clean .und = false := by simp [clean]
@[simp] theorem clean_ifc (t v) : clean (.ifc t v) = clean v := by simp [clean]
@[simp] theorem clean_clo (f a b) : clean (.clo f a b) = (cleans a && cleans b) := by simp [clean]
@[simp] theorem cleans_nil : cleans [] = true := by simp [cleans]
@[simp] theorem cleans_cons (d ds) : cleans (d :: ds) = (clean d && cleans ds) := by simp [cleans]
@[simp] theorem flat_int (k n) : flat (.int k n) = true := by simp [flat]
@[simp] theorem flat_bool (b) : flat (.bool b) = true := by simp [flat]
@[simp] theorem flat_str (b) : flat (.str b) = true := by simp [flat]
@[simp] theorem flat_agg (b) : flat (.agg b) = flats b := by simp [flat]
@[simp] theorem flat_tup (b) : flat (.tup b) = flats b := by simp [flat]
@[simp] theorem flat_snil : flat .snil = true := by simp [flat]
@[simp] theorem flat_sl (a b c) : flat (.sl a b c) = false := by simp [flat]
@[simp] theorem flats_nil : flats [] = true := by simp [flats]
@[simp] theorem flats_cons (d ds) : flats (d :: ds) = (flat d && flats ds) := by simp [flats]
@[simp] theorem exp_int (h k n) : exp1 h (.int k n) = some (.int k n) := by simp [exp1, expG]
@[simp] theorem exp_bool (h b) : exp1 h (.bool b) = some (.bool b) := by simp [exp1, expG]
@[simp] theorem exp_str (h b) : exp1 h (.str b) = some (.str b) := by simp [exp1, expG]
@[simp] theorem exp_flt (h k b) : exp1 h (.flt k b) = some (.flt k b) := by simp [exp1, expG]
@[simp] theorem exp_cpx (h k a b) : exp1 h (.cpx k a b) = some (.cpx k a b) := by simp [exp1, expG]
@[simp] theorem exp_snil (h) : exp1 h .snil = some .snil := by simp [exp1, expG]
@[simp] theorem exp_nil (h) : exp1 h .nil = some .nil := by simp [exp1, expG]
@[simp] theorem exp_nilf (h) : exp1 h .nilf = some .nilf := by simp [exp1, expG]
@[simp] theorem exp_nili (h) : exp1 h .nili = some .nili := by simp [exp1, expG]
@[simp] theorem exp_sl (h a b c) : exp1 h (.sl a b c) = some (.sl a b false) := by simp [exp1, expG]
@[simp] theorem exp_agg (h b) : exp1 h (.agg b) = (exps1 h b).map .agg := by simp [exp1, exps1, expG]
@[simp] theorem exp_tup (h b) : exp1 h (.tup b) = (exps1 h b).map .tup := by simp [exp1, exps1, expG]
@[simp] theorem exps_nil (h) : exps1 h [] = some [] := by simp [exps1, expsG]
@[simp] theorem exps_cons (h d ds) : exps1 h (d :: ds) = (exp1 h d).bind fun a => (exps1 h ds).bind fun as => some (a :: as) := by
  simp only [exps1, exp1, expsG]; cases expG (expI 2 h) h d <;> cases expsG (expI 2 h) h ds <;> rfl
@[simp] theorem exp_clo (h f a b) : exp1 h (.clo f a b) = (exps1 h a).bind fun x => (exps1 h b).bind fun y => some (.clo f x y) := by
  simp only [exps1, exp1, expG]; cases expsG (expI 2 h) h a <;> cases expsG (expI 2 h) h b <;> rfl
theorem expI_clean {k : Nat} {h : List Ob} {xs : List D} (hc : cleans xs = true) : expI k h xs = some xs := by
  cases k <;> simp [expI, hc]
theorem exp_ownI (h z id ver off len) : exp1 h (.own z id ver off len) = (elsOf h (.own z id ver off len)).bind fun xs => (expI 2 h xs).map fun ys => .sl z ys false := by
  simp only [exp1, expG]; cases elsOf h (.own z id ver off len) with
  | none => rfl
  | some xs => simp only [Option.bind_some]; cases expI 2 h xs <;> rfl
/-- elements that are clean leave as they are -/
def ownK (h : List Ob) (z : Nat) (xs : List D) : Option D := (expI 2 h xs).map fun ys => .sl z ys false
theorem ownK_clean (h z xs) (hc : cleans xs = true) : ownK h z xs = some (.sl z xs false) := by simp [ownK, expI_clean hc]
theorem exp_own (h z id ver off len) : exp1 h (.own z id ver off len) = (elsOf h (.own z id ver off len)).bind (ownK h z) := exp_ownI ..
mutual
/-- no slice has a known end of its room -/
def lz : D → Bool
  | .agg cs => lzs cs
  | .tup ds => lzs ds
  | .clo _ a b => lzs a && lzs b
  | .ifc _ v => lz v
  | .sl _ _ t => !t
  | _ => true
def lzs : List D → Bool
  | [] => true
  | d :: ds => lz d && lzs ds
end
@[simp] theorem lz_int (k n) : lz (.int k n) = true := by simp only [lz, lzs]
@[simp] theorem lz_bool (b) : lz (.bool b) = true := by simp only [lz, lzs]
@[simp] theorem lz_str (b) : lz (.str b) = true := by simp only [lz, lzs]
@[simp] theorem lz_flt (a b) : lz (.flt a b) = true := by simp only [lz, lzs]
@[simp] theorem lz_cpx (a b c) : lz (.cpx a b c) = true := by simp only [lz, lzs]
@[simp] theorem lz_nil : lz .nil = true := by simp only [lz, lzs]
@[simp] theorem lz_nilf : lz .nilf = true := by simp only [lz, lzs]
@[simp] theorem lz_nili : lz .nili = true := by simp only [lz, lzs]
@[simp] theorem lz_snil : lz .snil = true := by simp only [lz, lzs]
@[simp] theorem lz_sl (a b c) : lz (.sl a b c) = !c := by simp only [lz, lzs]
@[simp] theorem lz_agg (b) : lz (.agg b) = lzs b := by simp only [lz, lzs]
@[simp] theorem lz_tup (b) : lz (.tup b) = lzs b := by simp only [lz, lzs]
@[simp] theorem lz_clo (f a b) : lz (.clo f a b) = (lzs a && lzs b) := by simp only [lz, lzs]
@[simp] theorem lz_ifc (t v) : lz (.ifc t v) = lz v := by simp only [lz, lzs]
@[simp] theorem lzs_nil : lzs [] = true := by simp only [lz, lzs]
@[simp] theorem lzs_cons (d ds) : lzs (d :: ds) = (lz d && lzs ds) := by simp only [lz, lzs]
mutual
theorem expG_clean {inner h} : ∀ {d : D}, clean d = true → lz d = true → expG inner h d = some d
  | .agg cs, hc, hl => by simp only [expG, expsG_clean (by simpa [clean] using hc : cleans cs = true) hl]; rfl
  | .tup cs, hc, hl => by simp only [expG, expsG_clean (by simpa [clean] using hc : cleans cs = true) hl]; rfl
  | .clo f a b, hc, hl => by
    simp only [clean, Bool.and_eq_true] at hc
    simp only [lz_clo, Bool.and_eq_true] at hl
    simp only [expG, expsG_clean hc.1 hl.1, expsG_clean hc.2 hl.2]
  | .ifc t v, hc, hl => by simp only [expG, expG_clean (by simpa [clean] using hc : clean v = true) hl]; rfl
  | .own .., hc, _ => by simp [clean] at hc
  | .ptr .., hc, _ => by simp [clean] at hc
  | .und, hc, _ => by simp [clean] at hc
  | .int .., _, _ => rfl
  | .bool .., _, _ => rfl
  | .str .., _, _ => rfl
  | .flt .., _, _ => rfl
  | .cpx .., _, _ => rfl
  | .nil, _, _ => rfl
  | .snil, _, _ => rfl
  | .nilf, _, _ => rfl
  | .nili, _, _ => rfl
  | .fptr .., _, _ => rfl
  | .sl z xs t, _, hl => by
    simp only [lz_sl, Bool.not_eq_true'] at hl; subst hl; rfl
theorem expsG_clean {inner h} : ∀ {ds : List D}, cleans ds = true → lzs ds = true → expsG inner h ds = some ds
  | [], _, _ => rfl
  | d :: ds, hc, hl => by
    simp only [cleans, Bool.and_eq_true] at hc
    simp only [lzs_cons, Bool.and_eq_true] at hl
    simp only [expsG, expG_clean hc.1 hl.1, expsG_clean hc.2 hl.2]
end
theorem exp_clean {h} {d : D} (hc : clean d = true) (hl : lz d = true) : exp1 h d = some d := expG_clean hc hl
theorem exps_clean {h} {ds : List D} (hc : cleans ds = true) (hl : lzs ds = true) : exps1 h ds = some ds := expsG_clean hc hl
mutual
theorem marksG_clean {inner h} : ∀ {d : D}, clean d = true → marksG inner h d = []
  | .agg cs, hc => by simp only [marksG, markssG_clean (by simpa [clean] using hc : cleans cs = true)]
  | .tup cs, hc => by simp only [marksG, markssG_clean (by simpa [clean] using hc : cleans cs = true)]
  | .clo f a b, hc => by
    simp only [clean, Bool.and_eq_true] at hc
    simp only [marksG, markssG_clean hc.1, markssG_clean hc.2, List.append_nil]
  | .ifc t v, hc => by simp only [marksG, marksG_clean (by simpa [clean] using hc : clean v = true)]
  | .own .., hc => by simp [clean] at hc
  | .ptr .., hc => by simp [clean] at hc
  | .und, hc => by simp [clean] at hc
  | .int .., _ => rfl
  | .bool .., _ => rfl
  | .str .., _ => rfl
  | .flt .., _ => rfl
  | .cpx .., _ => rfl
  | .nil, _ => rfl
  | .snil, _ => rfl
  | .nilf, _ => rfl
  | .nili, _ => rfl
  | .fptr .., _ => rfl
  | .sl .., _ => rfl
theorem markssG_clean {inner h} : ∀ {ds : List D}, cleans ds = true → markssG inner h ds = []
  | [], _ => rfl
  | d :: ds, hc => by
    simp only [cleans, Bool.and_eq_true] at hc
    simp only [markssG, marksG_clean hc.1, markssG_clean hc.2, List.append_nil]
end
theorem marks_clean {h} {d : D} (hc : clean d = true) : marks h d = [] := marksG_clean hc
theorem markss_clean {h} {ds : List D} (hc : cleans ds = true) : markss h ds = [] := markssG_clean hc
theorem marksI_clean {k h} {xs : List D} (hc : cleans xs = true) : marksI k h xs = [] := by cases k <;> simp [marksI, hc]
theorem marks_own {h z id ver off len} {xs : List D} (he : elsOf h (.own z id ver off len) = some xs) (hc : cleans xs = true) : marks h (.own z id ver off len) = [(id, off + len)] := by
  simp [marks, marksG, he, marksI_clean hc]
mutual
theorem beq_eq' : ∀ {a b : D}, beq a b = true → a = b
  | .int .., .int .., h => by simp [beq] at h; simp [h]
  | .bool .., .bool .., h => by simp [beq] at h; simp [h]
  | .str ⟨a⟩, .str ⟨b⟩, h => by simp [beq] at h; simp [h]
  | .flt .., .flt .., h => by simp [beq] at h; simp [h]
  | .cpx .., .cpx .., h => by simp [beq] at h; simp [h]
  | .agg a, .agg b, h => by simp only [beq] at h; rw [beqs_eq' h]
  | .tup a, .tup b, h => by simp only [beq] at h; rw [beqs_eq' h]
  | .nil, .nil, h => rfl
  | .ptr .., .ptr .., h => by simp [beq] at h; simp [h]
  | .sl z a t, .sl z' b u, h => by
    simp only [beq, Bool.and_eq_true, beq_iff_eq] at h
    rw [beqs_eq' h.2, h.1.1, h.1.2]
  | .snil, .snil, h => rfl
  | .own .., .own .., h => by simp [beq] at h; simp [h]
  | .nilf, .nilf, h => rfl
  | .nili, .nili, h => rfl
theorem beqs_eq' : ∀ {a b : List D}, beqs a b = true → a = b
  | [], [], _ => rfl
  | x :: a, y :: b, h => by
    simp only [beqs, Bool.and_eq_true] at h
    rw [beq_eq' h.1, beqs_eq' h.2]
  | [], _ :: _, h => by simp [beqs] at h
  | _ :: _, [], h => by simp [beqs] at h
end
theorem beqo_eq' {a b : Option D} (h : beqo a b = true) : a = b := by
  cases a <;> cases b <;> simp [beqo] at h
  rw [beq_eq' h]
section
variable {P : Program} {cfg : Cfg} {run : Run}
theorem fits_agg {t s : Nat} (ha : aggT P t = some true) (hs : szT P t = some s) (cs : List D) : fits P t (.agg cs) = (cs.length == s && cs.all D.one) := by simp [fits, ha, hs]
theorem fits_one {t : Nat} (ha : aggT P t = some false) (hs : szT P t = some 1) (d : D) : fits P t d = d.one := by simp [fits, ha, hs]
theorem ldD_ptr {t s : Nat} {ag : Bool} (ha : aggT P t = some ag) (hs : szT P t = some s) (h : List Ob) (id ver i j : Nat) : ldD P h t (.ptr id ver i j) = (h[id]?).bind fun o => if o.ver = ver then ldEls o.els i j s ag else none := by
  simp only [ldD, ha, hs]; cases h[id]? <;> rfl
theorem ldD_fptr {t s : Nat} {ag : Bool} (ha : aggT P t = some ag) (hs : szT P t = some s) (h : List Ob) (z xs i j) : ldD P h t (.fptr z xs i j) = ldEls xs i j s ag := by
  simp only [ldD, ha, hs]
theorem ldEls_eq (els i j s ag) : ldEls els i j s ag = (els[i]?).bind fun e => ldEl e j s ag := by unfold ldEls; cases els[i]? <;> rfl
theorem ldEl_part (e : D) (j s : Nat) : ldEl e j s false = e.cells[j]? := by simp [ldEl]
theorem ldEl_all (cs : List D) (s : Nat) (h : cs.length = s) : ldEl (.agg cs) 0 s true = some (.agg cs) := by simp [ldEl, h]
theorem ldEl_some (cs : List D) (j s : Nat) (h0 : j ≠ 0 ∨ cs.length ≠ s) (h : j + s ≤ cs.length) : ldEl (.agg cs) j s true = some (.agg ((cs.drop j).take s)) := by
  simp only [ldEl, if_true]; rw [if_neg (by omega), if_pos h]
theorem stD_ptr {t s : Nat} {ag : Bool} (ha : aggT P t = some ag) (hs : szT P t = some s) (h : List Ob) (id ver i j : Nat) (v : D) (hf : fits P t v = true) :
    stD P h t (.ptr id ver i j) v = (h[id]?).bind fun o => if o.ver = ver ∧ o.frz ≤ i then (stEls o.els i j s ag v).map fun els => h.set id { o with els := els } else none := by
  simp only [stD, ha, hs, hf, if_true]; cases h[id]? <;> rfl
theorem stEls_eq (els i j s ag v) : stEls els i j s ag v = (els[i]?).bind fun e => (stEl e j s ag v).map fun e' => els.set i e' := by unfold stEls; cases els[i]? <;> rfl
theorem stEl_part (cs : List D) (j s : Nat) (v : D) (h : j < cs.length) : stEl (.agg cs) j s false v = some (.agg (cs.set j v)) := by simp [stEl, h]
theorem stEl_all (cs vs : List D) (s : Nat) (h : cs.length = s) : stEl (.agg cs) 0 s true (.agg vs) = some (.agg vs) := by simp [stEl, h]
theorem stEl_some (cs vs : List D) (j s : Nat) (h0 : j ≠ 0 ∨ cs.length ≠ s) (h : j + s ≤ cs.length) : stEl (.agg cs) j s true (.agg vs) = some (.agg (cs.take j ++ vs ++ cs.drop (j + s))) := by
  simp only [stEl, if_true]; rw [if_neg (by omega), if_pos h]
theorem stEl_one (e v : D) (s : Nat) (h : e.one = true) : stEl e 0 s false v = some v := by cases e <;> first | rfl | (cases h; done)
theorem put_some (σ : Nat → D) (h : List Ob) (n t : Nat) (d : D) (ht : t < n) : put ⟨σ, h, n⟩ (some t) d = some ⟨upd σ t d, h, n⟩ := by simp [put, ht]
theorem put_none (s : St) (d : D) : put s none d = some s := rfl
theorem upd_eq (σ : Nat → D) (t : Nat) (d : D) : upd σ t d t = d := by simp [upd]
theorem upd_ne (σ : Nat → D) (t u : Nat) (d : D) (h : (u == t) = false) : upd σ t d u = σ u := by
  have : u ≠ t := by simpa using h
  simp [upd, this]
/-! steps -/
def putK (o : Oper) (st : St) (x : D × List Ob) : Option St := put { st with h := x.2 } o.dst x.1
theorem putK_mk (dst op ty pos a g) (σ h n d h') : putK ⟨dst, op, ty, pos, a, g⟩ ⟨σ, h, n⟩ (d, h') = put ⟨σ, h', n⟩ dst d := rfl
def stepK (P : Program) (cfg : Cfg) (run : Run) (o : Oper) (st : St) : Bool → Option St
  | true => (opD P cfg run o st).bind (putK o st)
  | false => put st o.dst (.tup [])
theorem stepK_true (o st) : stepK P cfg run o st true = (opD P cfg run o st).bind (putK o st) := rfl
theorem stepK_false (o st) : stepK P cfg run o st false = put st o.dst (.tup []) := rfl
theorem stepD_eq (ops o st) : stepD P cfg run ops o st = (wantD ops o st.σ).bind (stepK P cfg run o st) := by
  unfold stepD
  cases wantD ops o st.σ with
  | none => rfl
  | some b => cases b with
    | true => simp only [Option.bind_some, stepK]; cases opD P cfg run o st <;> rfl
    | false => rfl
theorem opsD_cons (ops o os st) : opsD P cfg run ops (o :: os) st = (stepD P cfg run ops o st).bind (opsD P cfg run ops os) := by
  simp only [opsD]; cases stepD P cfg run ops o st <;> rfl
theorem opsD_nil (ops st) : opsD P cfg run ops [] st = some st := rfl
def boolK (want : Bool) : D → Option Bool
  | .bool b => some (b == want)
  | .tup [] => some false
  | _ => none
theorem want_none (ops : Array Oper) (dst op ty pos a) (σ) : wantD ops ⟨dst, op, ty, pos, a, none⟩ σ = some true := rfl
theorem want_some (ops : Array Oper) (dst op ty pos a j w) (σ) : wantD ops ⟨dst, op, ty, pos, a, some (j, w)⟩ σ = ((ops[j]?).bind (·.dst)).bind fun t => boolK w (σ t) := by
  unfold wantD
  simp only
  cases (ops[j]?).bind (·.dst) with
  | none => rfl
  | some t =>
    simp only [Option.bind_some]
    cases σ t with
    | tup ds => cases ds <;> rfl
    | _ => rfl
theorem boolK_tup (w) : boolK w (.tup []) = some false := rfl
theorem boolK_bool (w b) : boolK w (.bool b) = some (b == w) := rfl
/-! operations -/
def pickK (σ : Nat → D) (h : List Ob) (a b : Operand) : D → Option (D × List Ob)
  | .bool true => (ev σ a).map fun d => (d, h)
  | .bool false => (ev σ b).map fun d => (d, h)
  | _ => none
theorem pickK_bool (σ h a b) (x : Bool) : pickK σ h a b (.bool x) = if x then (ev σ a).map fun d => (d, h) else (ev σ b).map fun d => (d, h) := by cases x <;> rfl
/-- a conversion -/
def convD (P : Program) (s d : TypeId) (a : D) : Option D := match scal a with
  | some v => pure1 P (convert s d v)
  | none => b2sD P s d a
theorem convD_int (s d k n) : convD P s d (.int k n) = pure1 P (convert s d (.int k n)) := rfl
theorem convD_flt (s d k n) : convD P s d (.flt k n) = pure1 P (convert s d (.float k n)) := rfl
theorem convD_str (s d n) : convD P s d (.str n) = pure1 P (convert s d (.string n)) := rfl
theorem convD_sl (s d z xs t) : convD P s d (.sl z xs t) = b2sD P s d (.sl z xs t) := rfl
/-- a slice that is written out, and never written -/
def cleanK (s : Nat) (t : Bool) (h : List Ob) (els : List D) : Option (D × List Ob) := if cleans els then some (.sl s els t, h) else none
theorem cleanK_eq {s t h els} (hc : cleans els = true) : cleanK s t h els = some (.sl s els t, h) := by simp [cleanK, hc]
def litK (s : Nat) (g : Bool) (zs : List D) (h : List Ob) (ds : List (Nat × D)) : Option (D × List Ob) := (fillD s g zs ds).bind (cleanK s (zs.length == 0) h)
theorem litK_eq (s g zs h ds) : litK s g zs h ds = (fillD s g zs ds).bind (cleanK s (zs.length == 0) h) := rfl
theorem fill_nil (s g els) : fillD s g els [] = some els := rfl
theorem fill_cons (s g els i v rest) : fillD s g els ((i, v) :: rest) = if i < els.length ∧ v.cells.length = s ∧ (v.one = !g) ∧ v.cells.all D.one = true then fillD s g (els.set i v) rest else none := rfl
/-! append, copy, make, index: by the kind of the slice -/
def apN (sz : Nat) (h : List Ob) (s : D) (old new : List D) : Option (D × List Ob) :=
  if new.length = 0 then some (s, h)
  else match s with
    | .snil => some (.own sz h.length 0 0 new.length, newOb h sz new)
    | .sl _ xs true => some (.own sz h.length 0 0 (xs.length + new.length), newOb h sz (xs ++ new))
    | .own _ id ver off len => match h[id]? with
      | some o => if o.frz ≤ off + len then some (.own sz id (ver + 1) 0 (len + new.length), h.set id { o with ver := ver + 1, els := old ++ new, frz := o.frz - off }) else none
      | none => none
    | _ => none
def apK (b sz : Nat) (h : List Ob) (s : D) (old new : List D) : Option (D × List Ob) :=
  if (old.length + new.length) * b ≤ big then apN sz h s old new else none
theorem app_eq {ats : Array TypeId} {t t' e e' sz b : Nat} {ag : Bool} (ha0 : ats[0]? = some t) (ha1 : ats[1]? = some t') (hel : elemT P t = some e) (hu : P.underlying t' = some (.slice e'))
    (hs : szT P e = some sz) (hs' : szT P e' = some sz) (hb : byT P e = some b) (hag : aggT P e = some ag) (hz : zeroOk P e = true) (hb0 : 0 < b) (hs0 : 0 < sz) (h ty s x) :
    builtinD P h .append ats ty [s, x] = (elsZ h sz s).bind fun old => (elsZ h sz x).bind (apK b sz h s old) := by
  simp only [builtinD, appendD, ha0, hel, hs, hb, Option.getD_some, hag, appNew, ha1, hu, hs', if_true]
  cases elsZ h sz s with
  | none => rfl
  | some old =>
    simp only [Option.bind_some]
    cases elsZ h sz x with
    | none => rfl
    | some new =>
      simp only [Option.bind_some, apK, apN]
      rw [if_pos True.intro]
      simp only []
      by_cases hg : (old.length + new.length) * b ≤ big
      · rw [if_pos hg, if_pos ⟨hg, hb0, hs0, hz⟩]; rfl
      · rw [if_neg hg, if_neg (fun hh => hg hh.1)]
theorem apN_nil (sz h s old) : apN sz h s old [] = some (s, h) := rfl
theorem apN_snil (sz h old x new) : apN sz h .snil old (x :: new) = some (.own sz h.length 0 0 (new.length + 1), newOb h sz (x :: new)) := rfl
theorem apN_sl (sz h old z xs x new) : apN sz h (.sl z xs true) old (x :: new) = some (.own sz h.length 0 0 (xs.length + (new.length + 1)), newOb h sz (xs ++ x :: new)) := rfl
theorem apN_own (sz h old z id ver off len x new) : apN sz h (.own z id ver off len) old (x :: new) = (h[id]?).bind fun o => if o.frz ≤ off + len then some (.own sz id (ver + 1) 0 (len + (new.length + 1)), h.set id { o with ver := ver + 1, els := old ++ x :: new, frz := o.frz - off }) else none := by
  simp only [apN, List.length_cons, Nat.add_eq_zero_iff, Nat.succ_ne_zero, and_false, if_false]
  cases h[id]? <;> rfl
theorem apN_sl' {sz h old z xs new} (hn : new.length ≠ 0) : apN sz h (.sl z xs true) old new = some (.own sz h.length 0 0 (xs.length + new.length), newOb h sz (xs ++ new)) := by simp [apN, hn]
theorem apN_snil' {sz h old new} (hn : new.length ≠ 0) : apN sz h .snil old new = some (.own sz h.length 0 0 new.length, newOb h sz new) := by simp [apN, hn]
theorem apN_own' {sz h old z id ver off len new} (hn : new.length ≠ 0) : apN sz h (.own z id ver off len) old new = (h[id]?).bind fun o => if o.frz ≤ off + len then some (.own sz id (ver + 1) 0 (len + new.length), h.set id { o with ver := ver + 1, els := old ++ new, frz := o.frz - off }) else none := by
  simp only [apN, hn, if_false]
  cases h[id]? <;> rfl
theorem apK_ok {b sz h s old new} (hb : (old.length + new.length) * b ≤ 2 ^ 47) : apK b sz h s old new = apN sz h s old new := by
  unfold apK big; rw [if_pos hb]
def cpN (sz : Nat) (h : List Ob) (d : D) (n : Nat) (xs : List D) : Option (D × List Ob) :=
  if n = 0 then some (.int .i64 0, h)
  else match d with
    | .own z id ver off len => match h[id]? with
      | some o => if o.ver = ver ∧ z = sz ∧ o.frz ≤ off ∧ off + len ≤ o.els.length ∧ o.esz = sz then
          some (.int .i64 n, h.set id { o with els := o.els.take off ++ xs.take n ++ o.els.drop (off + n) }) else none
      | none => none
    | _ => none
theorem copy_eq {ats : Array TypeId} {t e sz : Nat} (ha0 : ats[0]? = some t) (hel : elemT P t = some e) (hs : szT P e = some sz) (h ty d s) :
    builtinD P h .copy ats ty [d, s] = (lenS d).bind fun dl => (elsZ h sz s).bind fun xs => cpN sz h d (Nat.min xs.length dl) xs := by
  simp only [builtinD, copyD, ha0, hel, hs, Option.getD_some]
  cases lenS d with
  | none => rfl
  | some dl =>
    simp only [Option.bind_some]
    cases elsZ h sz s with
    | none => rfl
    | some xs => rfl
theorem ixsl_eq {t e z : Nat} (hu : P.underlying t = some (.slice e)) (hs : szT P e = some z) (xs : List D) (tg : Bool) (i : D) : indexAddrD P t (.sl z xs tg) i = (idxD xs.length i).map fun i => .fptr z xs i 0 := by
  simp [indexAddrD, hu, hs]
theorem ixown_eq {t e z : Nat} (hu : P.underlying t = some (.slice e)) (hs : szT P e = some z) (id ver off len : Nat) (i : D) : indexAddrD P t (.own z id ver off len) i = (idxD len i).map fun i => .ptr id ver (off + i) 0 := by
  simp [indexAddrD, hu, hs]
theorem idxD_nat {n i : Nat} (k : IntKind) (h : i < n) : idxD n (.int k (i : Int)) = some i := by simp [idxD, h]
theorem idxD_in {n : Nat} {i : Int} (k : IntKind) (h : 0 ≤ i ∧ i < n) : idxD n (.int k i) = some i.toNat := by simp [idxD, h]
section ops
variable (dst : Option Tmp) (ty : TypeId) (pos : String) (af : Array Edge) (g : Option (Nat × Bool)) (st : St)
theorem op_move (x) : opD P cfg run ⟨dst, .move x, ty, pos, af, g⟩ st = (ev st.σ x).map fun d => (d, st.h) := rfl
theorem op_assign (x) : opD P cfg run ⟨dst, .assign x, ty, pos, af, g⟩ st = (ev st.σ x).map fun d => (d, st.h) := rfl
theorem op_pick (c a b) : opD P cfg run ⟨dst, .pick c a b, ty, pos, af, g⟩ st = (ev st.σ c).bind (pickK st.σ st.h a b) := by
  simp only [opD]
  cases ev st.σ c with
  | none => rfl
  | some d => cases d <;> first | rfl | (rename_i b; cases b <;> rfl)
theorem op_alloc {t : TypeId} {z : D} {s : Nat} (hz : zeroT P t = some z) (hs : szT P t = some s) (hf : fits P t z = true) (h0 : 0 < s) :
    opD P cfg run ⟨dst, .alloc t, ty, pos, af, g⟩ st = some (.ptr st.h.length 0 0 0, newOb st.h s [z]) := by simp [opD, hz, hs, hf, h0]
def boxK (P : Program) (t s : Nat) (h : List Ob) (d : D) : Option (D × List Ob) := if fits P t d = true then some (.ptr h.length 0 0 0, newOb h s [d]) else none
theorem boxK_eq (t s h d) (hf : fits P t d = true) : boxK P t s h d = some (.ptr h.length 0 0 0, newOb h s [d]) := by simp [boxK, hf]
theorem op_box {t : TypeId} {s : Nat} (x) (hs : szT P t = some s) (h0 : 0 < s) : opD P cfg run ⟨dst, .box t x, ty, pos, af, g⟩ st = (ev st.σ x).bind (boxK P t s st.h) := by
  simp only [opD, hs]
  cases ev st.σ x with
  | none => rfl
  | some d => simp [boxK, h0]
theorem op_build (t ps) : opD P cfg run ⟨dst, .build t ps, ty, pos, af, g⟩ st = (evps st.σ ps.toList).bind fun ds => (buildD P t ds).map fun d => (d, st.h) := by
  simp only [opD]; cases evps st.σ ps.toList <;> rfl
theorem op_load (t a) : opD P cfg run ⟨dst, .load t a, ty, pos, af, g⟩ st = (ev st.σ a).bind fun p => (ldD P st.h t p).map fun d => (d, st.h) := by
  simp only [opD]; cases ev st.σ a <;> rfl
theorem op_store (t a x) : opD P cfg run ⟨dst, .store t a x, ty, pos, af, g⟩ st = (ev st.σ a).bind fun p => (ev st.σ x).bind fun v => (stD P st.h t p v).map fun h' => (.und, h') := by
  simp only [opD]; cases ev st.σ a <;> cases ev st.σ x <;> rfl
theorem op_bin (op t x y u) : opD P cfg run ⟨dst, .binOp op t x y u, ty, pos, af, g⟩ st = (ev st.σ x).bind fun a => (ev st.σ y).bind fun b => (binD P op t x y a b).map fun d => (d, st.h) := by
  simp only [opD]; cases ev st.σ x <;> cases ev st.σ y <;> rfl
theorem op_not (t x) : opD P cfg run ⟨dst, .unOp .not t x, ty, pos, af, g⟩ st = (ev st.σ x).bind fun a => (scal a).bind fun v => (pure1 P (Op.unary .not v)).map fun d => (d, st.h) := by
  simp only [opD]; cases ev st.σ x with
  | none => rfl
  | some a => simp only [Option.bind_some]; cases scal a <;> rfl
theorem op_un (op t x) : opD P cfg run ⟨dst, .unOp op t x, ty, pos, af, g⟩ st = (ev st.σ x).bind fun a => (scal a).bind fun v => (pure1 P (Op.unary op v)).map fun d => (d, st.h) := by
  simp only [opD]; cases ev st.σ x with
  | none => rfl
  | some a => simp only [Option.bind_some]; cases scal a <;> rfl
theorem op_convert (s d x) : opD P cfg run ⟨dst, .convert s d x, ty, pos, af, g⟩ st = (ev st.σ x).bind fun a => (convD P s d a).map fun d => (d, st.h) := by
  simp only [opD]; cases ev st.σ x with
  | none => rfl
  | some a => simp only [Option.bind_some, convD]; cases scal a <;> rfl
theorem op_bslice {t e z : TypeId} {s : Nat} {g' : Bool} {zv : D} {n : Nat} (ps) (he : elemT P t = some e) (hs : szT P e = some s) (ha : aggT P e = some g') (hz : zeroT P e = some zv) (hl : cfg.lit t n = false) (h1 : fits P e zv = true) (h2 : n * s ≤ 2 ^ 24) (h3 : 0 < s) :
    opD P cfg run ⟨dst, .buildSlice t n ps, ty, pos, af, g⟩ st = (evps st.σ ps.toList).bind fun ds => (fillD s g' (List.replicate n zv) ds).map fun els => (.own s st.h.length 0 0 n, newOb st.h s els) := by
  simp only [opD, he]
  cases evps st.σ ps.toList with
  | none => rfl
  | some ds => simp [hs, ha, hz, h1, h2, h3, hl]
theorem lit_eq {t e : TypeId} {s : Nat} {g' : Bool} {zv : D} {n : Nat} (ps) (he : elemT P t = some e) (hs : szT P e = some s) (ha : aggT P e = some g') (hz : zeroT P e = some zv) (hl : cfg.lit t n = true) (h1 : fits P e zv = true) (h2 : n * s ≤ 2 ^ 24) (h3 : 0 < s) :
    opD P cfg run ⟨dst, .buildSlice t n ps, ty, pos, af, g⟩ st = (evps st.σ ps.toList).bind (litK s g' (List.replicate n zv) st.h) := by
  simp only [opD, he]
  cases evps st.σ ps.toList with
  | none => rfl
  | some ds =>
    have e2 : litK s g' (List.replicate n zv) st.h ds = (fillD s g' (List.replicate n zv) ds).bind fun els => if cleans els then some (.sl s els (n == 0), st.h) else none := by
      unfold litK; rw [List.length_replicate]; rfl
    rw [Option.bind_some, e2]
    simp only [hs, ha, hz, hl, if_true]
    rw [if_pos ⟨h2, h1, h3⟩]
theorem op_makeSlice (t l c) : opD P cfg run ⟨dst, .makeSlice t l c, ty, pos, af, g⟩ st = (ev st.σ l).bind fun a => (ev st.σ c).bind fun b => makeSliceD P st.h t a b := by
  simp only [opD]; cases ev st.σ l <;> cases ev st.σ c <;> rfl
theorem op_slice (t x lo hi mx) : opD P cfg run ⟨dst, .slice t x lo hi mx, ty, pos, af, g⟩ st = (ev st.σ x).bind fun d => (evo st.σ lo).bind fun a => (evo st.σ hi).bind fun b => (evo st.σ mx).bind fun c => sliceD P st.h t d a b c := by
  simp only [opD]; cases ev st.σ x <;> cases evo st.σ lo <;> cases evo st.σ hi <;> cases evo st.σ mx <;> rfl
theorem op_fieldAddr (t x f) : opD P cfg run ⟨dst, .fieldAddr t x f, ty, pos, af, g⟩ st = (ev st.σ x).bind fun p => (fieldAddrD P t f p).map fun d => (d, st.h) := by
  simp only [opD]; cases ev st.σ x <;> rfl
theorem op_field (t x f) : opD P cfg run ⟨dst, .field t x f, ty, pos, af, g⟩ st = (ev st.σ x).bind fun p => (fieldD P t f p).map fun d => (d, st.h) := by
  simp only [opD]; cases ev st.σ x <;> rfl
theorem op_indexAddr (t x i) : opD P cfg run ⟨dst, .indexAddr t x i, ty, pos, af, g⟩ st = (ev st.σ x).bind fun p => (ev st.σ i).bind fun q => (indexAddrD P t p q).map fun d => (d, st.h) := by
  simp only [opD]; cases ev st.σ x <;> cases ev st.σ i <;> rfl
theorem op_index (t x i) : opD P cfg run ⟨dst, .index t x i, ty, pos, af, g⟩ st = (ev st.σ x).bind fun p => (ev st.σ i).bind fun q => (indexD P t p q).map fun d => (d, st.h) := by
  simp only [opD]; cases ev st.σ x <;> cases ev st.σ i <;> rfl
def extK (i : Nat) (h : List Ob) : D → Option (D × List Ob)
  | .tup ds => (ds[i]?).map fun d => (d, h)
  | _ => none
theorem extK_tup (i h ds) : extK i h (.tup ds) = (ds[i]?).map fun d => (d, h) := rfl
theorem op_extract (x i) : opD P cfg run ⟨dst, .extract x i, ty, pos, af, g⟩ st = (ev st.σ x).bind (extK i st.h) := by
  simp only [opD]; cases ev st.σ x with
  | none => rfl
  | some d => cases d <;> first | rfl | (rename_i ds; simp only [Option.bind_some, extK]; cases ds[i]? <;> rfl)
theorem op_call (f : FuncId) (args ats) : opD P cfg run ⟨dst, .call ⟨.value (.func f), args, ats⟩, ty, pos, af, g⟩ st = (evs st.σ args.toList).bind (callD P cfg run st.h f) := by
  simp only [opD, ev]
  cases evs st.σ args.toList with
  | none => rfl
  | some as => simp
def cloK (P : Program) (cfg : Cfg) (run : Run) (h : List Ob) (as : List D) : D → Option (D × List Ob)
  | .clo (.func g) a b => callD P cfg run h g (a ++ as ++ b)
  | _ => none
theorem op_callv (x : Tmp) (args ats) : opD P cfg run ⟨dst, .call ⟨.value (.tmp x), args, ats⟩, ty, pos, af, g⟩ st = (evs st.σ args.toList).bind fun as => cloK P cfg run st.h as (st.σ x) := by
  simp only [opD, ev]
  cases evs st.σ args.toList with
  | none => rfl
  | some as => simp only [Option.bind_some]; unfold cloK; split <;> split <;> simp_all
theorem op_builtin (b args ats) : opD P cfg run ⟨dst, .call ⟨.builtin b, args, ats⟩, ty, pos, af, g⟩ st = (evs st.σ args.toList).bind (builtinD P st.h b ats ty) := by
  simp only [opD]
  cases evs st.σ args.toList <;> rfl
end ops
theorem evs_cons (σ x xs) : evs σ (x :: xs) = (ev σ x).bind fun d => (evs σ xs).bind fun ds => some (d :: ds) := by
  simp only [evs]; cases ev σ x <;> cases evs σ xs <;> rfl
theorem evs_nil (σ) : evs σ [] = some [] := rfl
theorem evps_cons (σ i x xs) : evps σ ((i, x) :: xs) = (ev σ x).bind fun d => (evps σ xs).bind fun ds => some ((i, d) :: ds) := by
  simp only [evps]; cases ev σ x <;> cases evps σ xs <;> rfl
theorem evps_nil (σ) : evps σ [] = some [] := rfl
theorem ev_tmp (σ t) : ev σ (.tmp t) = some (σ t) := rfl
theorem ev_int (σ k n) : ev σ (.const (.int k n)) = some (.int k n) := rfl
theorem ev_bool (σ b) : ev σ (.const (.bool b)) = some (.bool b) := rfl
theorem ev_str (σ b) : ev σ (.const (.string b)) = some (.str b) := rfl
theorem ev_nils (σ) : ev σ (.const (.slice none 0 0)) = some .snil := rfl
theorem ev_agg (σ cs) : ev σ (.const (.agg cs)) = (ofVals cs.toList).map .agg := rfl
theorem cloK_clo (h as g a b) : cloK P cfg run h as (.clo (.func g) a b) = callD P cfg run h g (a ++ as ++ b) := rfl
theorem ev_func (σ f) : ev σ (.func f) = some (.clo (.func f) [] []) := rfl
theorem evo_none (σ) : evo σ none = some none := rfl
theorem evo_some (σ x) : evo σ (some x) = (ev σ x).map some := rfl
theorem ofVals_nil : ofVals [] = some [] := rfl
theorem ofVals_cons (v vs) : ofVals (v :: vs) = (ofVal1 v).bind fun d => (ofVals vs).bind fun ds => some (d :: ds) := by
  simp only [ofVals]; cases ofVal1 v <;> cases ofVals vs <;> rfl
theorem ofVal1_int (k n) : ofVal1 (.int k n) = some (.int k n) := rfl
theorem ofVal1_bool (b) : ofVal1 (.bool b) = some (.bool b) := rfl
theorem ofVal1_str (b) : ofVal1 (.string b) = some (.str b) := rfl
theorem ofVal1_flt (k b) : ofVal1 (.float k b) = some (.flt k b) := rfl
theorem ofVal1_cpx (k a b) : ofVal1 (.complex k a b) = some (.cpx k a b) := rfl
theorem ofVal1_nil : ofVal1 (.pointer none) = some .nil := rfl
theorem ofVal1_snil : ofVal1 (.slice none 0 0) = some .snil := rfl
theorem ofVal1_nilf : ofVal1 .nilFunc = some .nilf := rfl
theorem ofVal1_nili : ofVal1 .nilIface = some .nili := rfl
theorem scal_bool (b) : scal (.bool b) = some (.bool b) := rfl
theorem scal_int (k n) : scal (.int k n) = some (.int k n) := rfl
theorem bu_len {h : List Ob} {ats : Array TypeId} {ty t e : TypeId} {x : D} (ha : ats[0]? = some t) (hu : P.underlying t = some (.slice e)) : builtinD P h .len ats ty [x] = (lenS x).map fun (n : Nat) => (D.int .i64 (n : Int), h) := by
  simp [builtinD, ha, hu]
theorem bu_min (h ats ty k a b) : builtinD P h .min ats ty [.int k a, .int k b] = some (.int k (if b < a then b else a), h) := rfl
/-! calls -/
def chkK (r : D) : Option D := if clean r then some r else none
theorem chkK_eq (r : D) (h : clean r = true) : chkK r = some r := by simp [chkK, h]
def finK (x : D × List Ob) : Option D := (exp1 x.2 x.1).bind chkK
theorem finK_mk (d h) : finK (d, h) = (exp1 h d).bind chkK := rfl
theorem fnc_at {f} (he : cfg.ext f = none) (args) : fnc P cfg run f args = (body P run f args []).bind finK := by
  unfold fnc; simp only [he]
  cases body P run f args [] with
  | none => rfl
  | some x => obtain ⟨d, h⟩ := x; simp only [Option.bind_some, finK]; cases exp1 h d with
    | none => rfl
    | some r => simp [chkK]
/-- what the machine answers in so many steps -/
theorem eval_k {f : FuncId} {args : List D} {d : D} (k : Nat) (h : beqo (fnc P cfg (exec P cfg k) f args) (some d) = true) : fnc P cfg (W P cfg) f args = some d := fnc_le (exec_W k) (beqo_eq' h)
theorem fnc_eq (he : ∀ f, cfg.ext f = none) (f args) : fnc P cfg run f args = (body P run f args []).bind finK := by
  unfold fnc; simp only [he]
  cases body P run f args [] with
  | none => rfl
  | some x => obtain ⟨d, h⟩ := x; simp only [Option.bind_some, finK]; cases exp1 h d with
    | none => rfl
    | some r => simp [chkK]
def endK (P : Program) (fn : Func) : Ex × St → Option (D × List Ob)
  | (.normal, st) | (.ret, st) => (results P fn st).map fun d => (d, st.h)
  | _ => none
theorem endK_normal (P : Program) (fn : Func) (st : St) : endK P fn (.normal, st) = (results P fn st).map fun d => (d, st.h) := rfl
theorem endK_ret (P : Program) (fn : Func) (st : St) : endK P fn (.ret, st) = (results P fn st).map fun d => (d, st.h) := rfl
theorem body_eq {f : FuncId} {fn : Func} {c : Code} (hf : P.funcs[f]? = some fn) (hc : fn.body = some c) (hn : (fn.name == "runtime.NumGoroutine") = false) (args h) :
    body P run f args h = (run c ⟨argsσ args, h, max args.length fn.ntmps⟩).bind (endK P fn) := by
  unfold body
  simp only [hf, hc, hn]
  cases run c ⟨argsσ args, h, max args.length fn.ntmps⟩ with
  | none => rfl
  | some x => obtain ⟨e, st⟩ := x; cases e <;> rfl
def retK (cfg : Cfg) (h : List Ob) (args : List D) (r : D) : Option (D × List Ob) :=
  if flat r then some (r, h) else if cfg.nomark = true ∧ (markss h args).isEmpty = false then none else some (r, frzAll h (markss h args))
def callK (P : Program) (cfg : Cfg) (run : Run) (h : List Ob) (f : FuncId) (args as : List D) : Option (D × List Ob) :=
  if cleans as then (fnc P cfg run f as).bind (retK cfg h args) else none
theorem callK_eq (h f args as) (hc : cleans as = true) : callK P cfg run h f args as = (fnc P cfg run f as).bind (retK cfg h args) := by simp [callK, hc]
theorem retK_flat (h args r) (hr : flat r = true) : retK cfg h args r = some (r, h) := by simp [retK, hr]
theorem retK_mark (h args r) (hr : flat r = false) (hm : markss h args = []) : retK cfg h args r = some (r, h) := by simp [retK, hr, hm, frzAll]
theorem call_pure (h f args) (hs : cfg.shared f = false) : callD P cfg run h f args = (exps1 h args).bind (callK P cfg run h f args) := by
  unfold callD
  simp only [hs]
  cases exps1 h args with
  | none => rfl
  | some as =>
    simp only [Option.bind_some, callK]
    by_cases hc : cleans as = true
    · simp only [hc, if_true]
      cases fnc P cfg run f as <;> simp [retK]
    · simp [hc]
theorem call_shared (h f args) (hs : cfg.shared f = true) : callD P cfg run h f args = body P run f args h := by simp [callD, hs]
/-! code -/
def normK (x : St) : Option (Ex × St) := some (.normal, x)
theorem normK_eq (x) : normK x = some (.normal, x) := rfl
noncomputable def seqK (P : Program) (cfg : Cfg) (b : Code) : Ex × St → Option (Ex × St)
  | (.normal, st) => W P cfg b st
  | r => some r
theorem seqK_normal (b st) : seqK P cfg b (.normal, st) = W P cfg b st := rfl
theorem seqK_exit (b i st) : seqK P cfg b (.exit i, st) = some (.exit i, st) := rfl
theorem seqK_goto (b i st) : seqK P cfg b (.goto i, st) = some (.goto i, st) := rfl
theorem seqK_ret (b st) : seqK P cfg b (.ret, st) = some (.ret, st) := rfl
theorem Wseq (a b st) : W P cfg (.seq a b) st = (W P cfg a st).bind (seqK P cfg b) := by
  rw [W_seq]; cases W P cfg a st with
  | none => rfl
  | some x => obtain ⟨e, s⟩ := x; cases e <;> rfl
theorem Wregion (id ops st) : W P cfg (.region id ops false) st = (opsD P cfg (W P cfg) ops ops.toList st).bind normK := by
  rw [W_region]; simp only [regionD]; cases opsD P cfg (W P cfg) ops ops.toList st <;> rfl
noncomputable def condK (P : Program) (cfg : Cfg) (a b : Code) (st : St) : D → Option (Ex × St)
  | .bool true => W P cfg a st
  | .bool false => W P cfg b st
  | _ => none
theorem condK_bool (a b st) (x : Bool) : condK P cfg a b st (.bool x) = if x then W P cfg a st else W P cfg b st := by cases x <;> rfl
theorem condK_true (a b st) : condK P cfg a b st (.bool true) = W P cfg a st := rfl
theorem condK_false (a b st) : condK P cfg a b st (.bool false) = W P cfg b st := rfl
theorem Wcond (y a b st) : W P cfg (.cond y a b) st = (ev st.σ y).bind (condK P cfg a b st) := by
  rw [W_cond]; cases ev st.σ y with
  | none => rfl
  | some d => cases d <;> first | rfl | (rename_i b; cases b <;> rfl)
def blockK (id : Nat) : Ex × St → Option (Ex × St)
  | (.exit i, st) => some (if i = id then .normal else .exit i, st)
  | r => some r
theorem blockK_exit (id i st) : blockK id (.exit i, st) = some (if i = id then .normal else .exit i, st) := rfl
theorem blockK_normal (id st) : blockK id (.normal, st) = some (.normal, st) := rfl
theorem blockK_ret (id st) : blockK id (.ret, st) = some (.ret, st) := rfl
theorem Wblock (id b st) : W P cfg (.block id b) st = (W P cfg b st).bind (blockK id) := by
  rw [W_block]; cases W P cfg b st with
  | none => rfl
  | some x => obtain ⟨e, s⟩ := x; cases e <;> rfl
noncomputable def loopK (P : Program) (cfg : Cfg) (b : Code) : Ex × St → Option (Ex × St)
  | (.normal, st) => W P cfg (.loop b) st
  | r => some r
theorem loopK_normal (b st) : loopK P cfg b (.normal, st) = W P cfg (.loop b) st := rfl
theorem loopK_exit (b i st) : loopK P cfg b (.exit i, st) = some (.exit i, st) := rfl
theorem loopK_ret (b st) : loopK P cfg b (.ret, st) = some (.ret, st) := rfl
theorem Wloop (b st) : W P cfg (.loop b) st = (W P cfg b st).bind (loopK P cfg b) := by
  rw [W_loop]; cases W P cfg b st with
  | none => rfl
  | some x => obtain ⟨e, s⟩ := x; cases e <;> rfl
theorem mk_slice {t e sz b : Nat} {z : D} (he : elemT P t = some e) (hs : szT P e = some sz) (hb : byT P e = some b) (hz : zeroT P e = some z) (hf : fits P e z = true) (hb0 : 0 < b) (hs0 : 0 < sz) (h : List Ob) (k k' : IntKind) (n m : Int)
    (hn : 0 ≤ n) (hnm : n ≤ m) (hm : m * b ≤ 2 ^ 47) : makeSliceD P h t (.int k n) (.int k' m) = some (.own sz h.length 0 0 n.toNat, newOb h sz (List.replicate n.toNat z)) := by
  have h0 : 0 ≤ m := by omega
  have h1 : m.toNat * b ≤ 2 ^ 47 := by
    have : ((m.toNat * b : Nat) : Int) ≤ 2 ^ 47 := by rw [Int.natCast_mul, Int.toNat_of_nonneg h0]; exact hm
    exact_mod_cast this
  have h2 : m.toNat ≤ 2 ^ 47 := Nat.le_trans (Nat.le_mul_of_pos_right _ hb0) h1
  have h3 : n.toNat ≤ m.toNat := by omega
  simp only [makeSliceD, he, hs, hb, hz, natD, if_pos hn, if_pos h0, hf, big]
  rw [if_pos ⟨h3, h1, hb0, hs0, h2, trivial⟩]
theorem ix_own {t e z : Nat} (hu : P.underlying t = some (.slice e)) (hs : szT P e = some z) (id ver off len : Nat) (k : IntKind) (i : Int) (hi : 0 ≤ i ∧ i < len) : indexAddrD P t (.own z id ver off len) (.int k i) = some (.ptr id ver (off + i.toNat) 0) := by
  simp [indexAddrD, hu, hs, idxD, hi]
theorem ix_sl {t e z : Nat} (hu : P.underlying t = some (.slice e)) (hs : szT P e = some z) (xs : List D) (tg : Bool) (k : IntKind) (i : Int) (hi : 0 ≤ i ∧ i < xs.length) : indexAddrD P t (.sl z xs tg) (.int k i) = some (.fptr z xs i.toNat 0) := by
  simp [indexAddrD, hu, hs, idxD, hi]
@[simp] theorem marks_int (h k n) : marks h (.int k n) = [] := by simp only [marks, markss, marksG, markssG]
@[simp] theorem marks_bool (h b) : marks h (.bool b) = [] := by simp only [marks, markss, marksG, markssG]
@[simp] theorem marks_str (h b) : marks h (.str b) = [] := by simp only [marks, markss, marksG, markssG]
@[simp] theorem marks_snil (h) : marks h .snil = [] := by simp only [marks, markss, marksG, markssG]
@[simp] theorem marks_sl (h a b c) : marks h (.sl a b c) = [] := by simp only [marks, markss, marksG, markssG]
@[simp] theorem marks_nil (h) : marks h .nil = [] := by simp only [marks, markss, marksG, markssG]
@[simp] theorem marks_nilf (h) : marks h .nilf = [] := by simp only [marks, markss, marksG, markssG]
@[simp] theorem marks_nili (h) : marks h .nili = [] := by simp only [marks, markss, marksG, markssG]
@[simp] theorem marks_flt (h a b) : marks h (.flt a b) = [] := by simp only [marks, markss, marksG, markssG]
@[simp] theorem marks_cpx (h a b c) : marks h (.cpx a b c) = [] := by simp only [marks, markss, marksG, markssG]
@[simp] theorem marks_clo (h f a b) : marks h (.clo f a b) = markss h a ++ markss h b := by simp only [marks, markss, marksG, markssG]
@[simp] theorem marks_agg (h b) : marks h (.agg b) = markss h b := by simp only [marks, markss, marksG, markssG]
@[simp] theorem marks_tup (h b) : marks h (.tup b) = markss h b := by simp only [marks, markss, marksG, markssG]
@[simp] theorem markss_nil (h) : markss h [] = [] := by simp only [marks, markss, marksG, markssG]
@[simp] theorem markss_cons (h d ds) : markss h (d :: ds) = marks h d ++ markss h ds := by simp only [marks, markss, marksG, markssG]
theorem retK_some (h args r) (hm : markss h args = []) : retK cfg h args r = some (r, h) := by simp [retK, hm, frzAll]
/-! structs from their fields -/
def bstr (P : Program) (t : TypeId) : Bool := match P.underlying t with | some (.struct fs) => fs.all fun f => (szT P f.type).isSome | _ => false
def bldD (P : Program) (t : TypeId) : List D → List (Nat × D) → Option (List D)
  | cs, [] => some cs
  | cs, (i, v) :: rest => match fieldT P t i with
    | some f => match szT P f.type with
      | some s => if v.cells.length = s ∧ f.offset + s ≤ cs.length ∧ v.cells.all D.one = true then bldD P t (cs.take f.offset ++ v.cells ++ cs.drop (f.offset + s)) rest else none
      | none => none
    | none => none
theorem buildS_bld {t : TypeId} {fs : Array Field} (h : P.underlying t = some (.struct fs)) : ∀ (ps : List (Nat × D)) (cs : List D), buildS P fs cs ps = bldD P t cs ps
  | [], cs => rfl
  | (i, v) :: ps, cs => by
    simp only [buildS, bldD, fieldT, h]
    cases fs[i]? with
    | none => rfl
    | some f =>
      simp only []
      cases szT P f.type with
      | none => rfl
      | some s =>
        simp only []
        split
        · exact buildS_bld h ps _
        · rfl
theorem buildD_eq {t : TypeId} {z : List D} (hz : zeroT P t = some (.agg z)) (hb : bstr P t = true) (ps : List (Nat × D)) : buildD P t ps = (bldD P t z ps).map .agg := by
  unfold bstr at hb
  unfold buildD
  split at hb
  · rename_i fs h
    simp only [hz, h, hb, if_true, buildS_bld h]
  · cases hb
theorem bld_cons {t i ty off s : Nat} (h : (fieldT P t i).map (fun x => (x.type, x.offset)) = some (ty, off)) (hs : szT P ty = some s) (cs : List D) (v : D) (ps : List (Nat × D)) :
    bldD P t cs ((i, v) :: ps) = if v.cells.length = s ∧ off + s ≤ cs.length ∧ v.cells.all D.one = true then bldD P t (cs.take off ++ v.cells ++ cs.drop (off + s)) ps else none := by
  cases hf : fieldT P t i with
  | none => simp [hf] at h
  | some f =>
    simp only [hf, Option.map_some, Option.some.injEq, Prod.mk.injEq] at h
    obtain ⟨rfl, rfl⟩ := h
    simp only [bldD, hf, hs]
theorem bld_nil {t : TypeId} (cs : List D) : bldD P t cs [] = some cs := rfl
/-! drawn regions -/
theorem fnc_nomark (run : Run) (f args) : fnc P ⟨cfg.shared, cfg.ext, true, cfg.lit⟩ run f args = fnc P cfg run f args := rfl
theorem drawOps_eq (ops : Array Oper) (cfg' : Cfg) (run : Run) : ∀ (l : List (Oper × Nat)) (st : St) (ls es), (drawOps P cfg' run ops l st ls es).map (·.1) = opsD P cfg' run ops (l.map (·.1)) st
  | [], st, ls, es => rfl
  | (o, i) :: l, st, ls, es => by
    simp only [drawOps, List.map_cons, opsD]
    cases hw : wantD ops o st.σ with
    | none => simp [stepD, hw]
    | some w =>
      cases hs : stepD P cfg' run ops o st with
      | none => rfl
      | some st' => exact drawOps_eq ops cfg' run l st' _ _
theorem Wdraw0 {ops : Array Oper} (h : drawInfo P cfg ops = some []) (id st) : W P cfg (.region id ops true) st = (opsD P ⟨cfg.shared, cfg.ext, true, cfg.lit⟩ (W P cfg) ops ops.toList st).bind normK := by
  rw [W_region]
  simp only [regionD, h, if_true]
  have e := drawOps_eq (P := P) ops ⟨cfg.shared, cfg.ext, true, cfg.lit⟩ (W P cfg) ops.toList.zipIdx st [] []
  rw [show ops.toList.zipIdx.map (·.1) = ops.toList from by simp] at e
  rw [← e]
  cases drawOps P ⟨cfg.shared, cfg.ext, true, cfg.lit⟩ (W P cfg) ops ops.toList.zipIdx st [] [] with
  | none => rfl
  | some x => obtain ⟨a, b, c⟩ := x; simp [drawChk, normK]
def drawE (P : Program) (un : List (Nat × Nat)) : St × List LdR × List EfR → Option (Ex × St)
  | (st, ls, es) => if drawChk P un ls es then some (.normal, st) else none
theorem drawE_mk (un st ls es) : drawE P un (st, ls, es) = if drawChk P un ls es then some (.normal, st) else none := rfl
theorem Wdraw {ops : Array Oper} {un} (h : drawInfo P cfg ops = some un) (id st) : W P cfg (.region id ops true) st = (drawOps P ⟨cfg.shared, cfg.ext, true, cfg.lit⟩ (W P cfg) ops ops.toList.zipIdx st [] []).bind (drawE P un) := by
  rw [W_region]
  simp only [regionD, h, if_true]
  cases drawOps P ⟨cfg.shared, cfg.ext, true, cfg.lit⟩ (W P cfg) ops ops.toList.zipIdx st [] [] with
  | none => rfl
  | some x => obtain ⟨a, b, c⟩ := x; simp only [Option.bind_some, drawE]; split <;> simp
def drawT (P : Program) (cfg : Cfg) (run : Run) (ops : Array Oper) (o : Oper) (i : Nat) (os : List (Oper × Nat)) (st : St) (ls : List LdR) (es : List EfR) (w : Bool) (st' : St) : Option (St × List LdR × List EfR) :=
  drawOps P cfg run ops os st' (if w then logL o i st ls else ls) (if w && loud P cfg o then ⟨i, st.h, st'.h⟩ :: es else es)
def drawS (P : Program) (cfg : Cfg) (run : Run) (ops : Array Oper) (o : Oper) (i : Nat) (os : List (Oper × Nat)) (st : St) (ls : List LdR) (es : List EfR) (w : Bool) : Option (St × List LdR × List EfR) :=
  (stepK P cfg run o st w).bind (drawT P cfg run ops o i os st ls es w)
theorem drawT_true (ops o i os st ls es st') : drawT P cfg run ops o i os st ls es true st' = drawOps P cfg run ops os st' (logL o i st ls) (if loud P cfg o then ⟨i, st.h, st'.h⟩ :: es else es) := by simp [drawT]
theorem drawT_false (ops o i os st ls es st') : drawT P cfg run ops o i os st ls es false st' = drawOps P cfg run ops os st' ls es := by simp [drawT]
theorem drawS_eq (ops o i os st ls es w) : drawS P cfg run ops o i os st ls es w = (stepK P cfg run o st w).bind (drawT P cfg run ops o i os st ls es w) := rfl
theorem drawOps_nil (ops st ls es) : drawOps P cfg run ops [] st ls es = some (st, ls, es) := rfl
theorem drawOps_cons (ops o i os st ls es) : drawOps P cfg run ops ((o, i) :: os) st ls es = (wantD ops o st.σ).bind (drawS P cfg run ops o i os st ls es) := by
  simp only [drawOps, stepD_eq]
  cases hw : wantD ops o st.σ with
  | none => rfl
  | some w =>
    simp only [Option.bind_some, drawS]
    cases hs : stepK P cfg run o st w with
    | none => rfl
    | some st' => rfl
theorem beq_int (k n) : beq (.int k n) (.int k n) = true := by simp [beq]
theorem beq_bool (b) : beq (.bool b) (.bool b) = true := by simp [beq]
theorem beqs_nil : beqs [] [] = true := by simp [beqs]
theorem beqs_cons (a as b bs) : beqs (a :: as) (b :: bs) = (beq a b && beqs as bs) := by simp [beqs]
theorem beq_agg (a b) : beq (.agg a) (.agg b) = beqs a b := by simp [beq]
theorem beq_snil : beq .snil .snil = true := by simp [beq]
theorem beq_sl (z xs t) : beq (.sl z xs t) (.sl z xs t) = beqs xs xs := by simp [beq]
theorem beqo_some (a b) : beqo (some a) (some b) = beq a b := rfl
/-! loops -/
/-- the body of the loop whose first region has this number -/
def headId : Code → Option Nat
  | .region k _ _ => some k
  | .seq a b => (headId a).or (headId b)
  | .cond _ a b => (headId a).or (headId b)
  | .block _ a => headId a
  | .loop a => headId a
  | .scope a => headId a
  | _ => none
def loopIn : Code → Nat → Option Code
  | .seq a b, n => (loopIn a n).or (loopIn b n)
  | .cond _ a b, n => (loopIn a n).or (loopIn b n)
  | .block _ a, n => loopIn a n
  | .loop a, n => if headId a = some n then some a else loopIn a n
  | .scope a, n => loopIn a n
  | _, _ => none
def loopAt (f : Func) (n : Nat) : Code := ((f.body.bind fun c => loopIn c n).getD .skip)
end
end Go.Proofs.YtlpadffinfijgaaW.Vm
