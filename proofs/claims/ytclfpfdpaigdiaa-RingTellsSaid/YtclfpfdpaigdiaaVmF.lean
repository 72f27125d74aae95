/- What the types of this program are, and which regions have their order open: for simp. Printed by facts.py. No conditions. -/
import Derived.Test.YtclfpfdpaigdiaaVmSim
import Derived.Test.YtclfpfdpaigdiaaProg
import Derived.KernelRfl
set_option linter.unusedVariables false
set_option linter.unusedSimpArgs false
namespace Go.Proofs.YtclfpfdpaigdiaaW.Vm
open Go Go.Proofs
def cfg : Cfg := { shared := fun f => f == 27 || f == 28 || f == 34, ext := fun _ => none, lit := fun t n => !(false) }
theorem cfg_lit (t n : Nat) : cfg.lit t n = (!(false)) := rfl
theorem cfg_nomark : cfg.nomark = false := rfl
noncomputable abbrev R : Run := W Try.prog cfg
theorem sh3 : cfg.shared 3 = false := by decide
theorem sh4 : cfg.shared 4 = false := by decide
theorem sh5 : cfg.shared 5 = false := by decide
theorem sh6 : cfg.shared 6 = false := by decide
theorem sh7 : cfg.shared 7 = false := by decide
theorem sh8 : cfg.shared 8 = false := by decide
theorem sh9 : cfg.shared 9 = false := by decide
theorem sh10 : cfg.shared 10 = false := by decide
theorem sh11 : cfg.shared 11 = false := by decide
theorem sh12 : cfg.shared 12 = false := by decide
theorem sh13 : cfg.shared 13 = false := by decide
theorem sh14 : cfg.shared 14 = false := by decide
theorem sh15 : cfg.shared 15 = false := by decide
theorem sh16 : cfg.shared 16 = false := by decide
theorem sh17 : cfg.shared 17 = false := by decide
theorem sh18 : cfg.shared 18 = false := by decide
theorem sh19 : cfg.shared 19 = false := by decide
theorem sh20 : cfg.shared 20 = false := by decide
theorem sh21 : cfg.shared 21 = false := by decide
theorem sh22 : cfg.shared 22 = false := by decide
theorem sh23 : cfg.shared 23 = false := by decide
theorem sh24 : cfg.shared 24 = false := by decide
theorem sh25 : cfg.shared 25 = false := by decide
theorem sh26 : cfg.shared 26 = false := by decide
theorem sh27 : cfg.shared 27 = true := by decide
theorem sh28 : cfg.shared 28 = true := by decide
theorem sh29 : cfg.shared 29 = false := by decide
theorem sh30 : cfg.shared 30 = false := by decide
theorem sh31 : cfg.shared 31 = false := by decide
theorem sh32 : cfg.shared 32 = false := by decide
theorem sh33 : cfg.shared 33 = false := by decide
theorem sh34 : cfg.shared 34 = true := by decide
theorem cfg_ext (f : Nat) : cfg.ext f = none := rfl
theorem ag3 : aggT Try.prog 3 = some false := by kernel_rfl
theorem sz3 : szT Try.prog 3 = some 1 := by kernel_rfl
theorem by3 : byT Try.prog 3 = some 8 := by kernel_rfl
theorem ze3 : zeroT Try.prog 3 = some (.int .i64 0) := by kernel_rfl
theorem un3 : Try.prog.underlying 3 = some (.int .i64) := by kernel_rfl
theorem ag4 : aggT Try.prog 4 = some false := by kernel_rfl
theorem sz4 : szT Try.prog 4 = some 1 := by kernel_rfl
theorem by4 : byT Try.prog 4 = some 1 := by kernel_rfl
theorem ze4 : zeroT Try.prog 4 = some (.bool false) := by kernel_rfl
theorem un4 : Try.prog.underlying 4 = some .bool := by kernel_rfl
theorem ag22 : aggT Try.prog 22 = some false := by kernel_rfl
theorem sz22 : szT Try.prog 22 = some 1 := by kernel_rfl
theorem by22 : byT Try.prog 22 = some 24 := by kernel_rfl
theorem ze22 : zeroT Try.prog 22 = some (.snil) := by kernel_rfl
theorem un22 : Try.prog.underlying 22 = some (.slice 33) := by kernel_rfl
theorem el22 : elemT Try.prog 22 = some 33 := by kernel_rfl
theorem ag24 : aggT Try.prog 24 = some true := by kernel_rfl
theorem sz24 : szT Try.prog 24 = some 4 := by kernel_rfl
theorem by24 : byT Try.prog 24 = some 48 := by kernel_rfl
theorem ze24 : zeroT Try.prog 24 = some (.agg [.snil, .int .i64 0, .int .i64 0, .int .i64 0]) := by kernel_rfl
theorem ag25 : aggT Try.prog 25 = some true := by kernel_rfl
theorem sz25 : szT Try.prog 25 = some 2 := by kernel_rfl
theorem by25 : byT Try.prog 25 = some 16 := by kernel_rfl
theorem ze25 : zeroT Try.prog 25 = some (.agg [.int .i64 0, .int .i64 0]) := by kernel_rfl
theorem un25 : Try.prog.underlying 25 = some (.array 2 3) := by kernel_rfl
theorem ag28 : aggT Try.prog 28 = some false := by kernel_rfl
theorem sz28 : szT Try.prog 28 = some 1 := by kernel_rfl
theorem by28 : byT Try.prog 28 = some 8 := by kernel_rfl
theorem ze28 : zeroT Try.prog 28 = some (.int .i64 0) := by kernel_rfl
theorem un28 : Try.prog.underlying 28 = some (.int .i64) := by kernel_rfl
theorem ag33 : aggT Try.prog 33 = some true := by kernel_rfl
theorem sz33 : szT Try.prog 33 = some 2 := by kernel_rfl
theorem by33 : byT Try.prog 33 = some 16 := by kernel_rfl
theorem ze33 : zeroT Try.prog 33 = some (.agg [.int .i64 0, .int .i64 0]) := by kernel_rfl
theorem ag48 : aggT Try.prog 48 = some true := by kernel_rfl
theorem sz48 : szT Try.prog 48 = some 4 := by kernel_rfl
theorem by48 : byT Try.prog 48 = some 48 := by kernel_rfl
theorem ze48 : zeroT Try.prog 48 = some (.agg [.snil, .int .i64 0, .int .i64 0, .int .i64 0]) := by kernel_rfl
theorem fp24_0 : ∀ id ver i j, fieldAddrD Try.prog 24 0 (.ptr id ver i j) = some (.ptr id ver i (j + 0)) := fun id ver i j => fd_of (ty := 22) (by kernel_rfl) sz22 (by decide) _
theorem fq24_0 : ∀ z xs i j, fieldAddrD Try.prog 24 0 (.fptr z xs i j) = some (.fptr z xs i (j + 0)) := fun z xs i j => fd_of (ty := 22) (by kernel_rfl) sz22 (by decide) _
theorem fp24_1 : ∀ id ver i j, fieldAddrD Try.prog 24 1 (.ptr id ver i j) = some (.ptr id ver i (j + 1)) := fun id ver i j => fd_of (ty := 3) (by kernel_rfl) sz3 (by decide) _
theorem fq24_1 : ∀ z xs i j, fieldAddrD Try.prog 24 1 (.fptr z xs i j) = some (.fptr z xs i (j + 1)) := fun z xs i j => fd_of (ty := 3) (by kernel_rfl) sz3 (by decide) _
theorem fp24_2 : ∀ id ver i j, fieldAddrD Try.prog 24 2 (.ptr id ver i j) = some (.ptr id ver i (j + 2)) := fun id ver i j => fd_of (ty := 3) (by kernel_rfl) sz3 (by decide) _
theorem fq24_2 : ∀ z xs i j, fieldAddrD Try.prog 24 2 (.fptr z xs i j) = some (.fptr z xs i (j + 2)) := fun z xs i j => fd_of (ty := 3) (by kernel_rfl) sz3 (by decide) _
theorem fp24_3 : ∀ id ver i j, fieldAddrD Try.prog 24 3 (.ptr id ver i j) = some (.ptr id ver i (j + 3)) := fun id ver i j => fd_of (ty := 3) (by kernel_rfl) sz3 (by decide) _
theorem fq24_3 : ∀ z xs i j, fieldAddrD Try.prog 24 3 (.fptr z xs i j) = some (.fptr z xs i (j + 3)) := fun z xs i j => fd_of (ty := 3) (by kernel_rfl) sz3 (by decide) _
theorem fp48_0 : ∀ id ver i j, fieldAddrD Try.prog 48 0 (.ptr id ver i j) = some (.ptr id ver i (j + 0)) := fun id ver i j => fd_of (ty := 24) (by kernel_rfl) sz24 (by decide) _
theorem fq48_0 : ∀ z xs i j, fieldAddrD Try.prog 48 0 (.fptr z xs i j) = some (.fptr z xs i (j + 0)) := fun z xs i j => fd_of (ty := 24) (by kernel_rfl) sz24 (by decide) _
theorem bu24 : ∀ ps, buildD Try.prog 24 ps = (bldD Try.prog 24 [.snil, .int .i64 0, .int .i64 0, .int .i64 0] ps).map .agg := buildD_eq ze24 (by kernel_rfl)
theorem bc24_0 : ∀ cs v ps, bldD Try.prog 24 cs ((0, v) :: ps) = if v.cells.length = 1 ∧ 0 + 1 ≤ cs.length ∧ v.cells.all D.one = true then bldD Try.prog 24 (cs.take 0 ++ v.cells ++ cs.drop (0 + 1)) ps else none := bld_cons (ty := 22) (by kernel_rfl) sz22
theorem bc24_1 : ∀ cs v ps, bldD Try.prog 24 cs ((1, v) :: ps) = if v.cells.length = 1 ∧ 1 + 1 ≤ cs.length ∧ v.cells.all D.one = true then bldD Try.prog 24 (cs.take 1 ++ v.cells ++ cs.drop (1 + 1)) ps else none := bld_cons (ty := 3) (by kernel_rfl) sz3
theorem bc24_2 : ∀ cs v ps, bldD Try.prog 24 cs ((2, v) :: ps) = if v.cells.length = 1 ∧ 2 + 1 ≤ cs.length ∧ v.cells.all D.one = true then bldD Try.prog 24 (cs.take 2 ++ v.cells ++ cs.drop (2 + 1)) ps else none := bld_cons (ty := 3) (by kernel_rfl) sz3
theorem bc24_3 : ∀ cs v ps, bldD Try.prog 24 cs ((3, v) :: ps) = if v.cells.length = 1 ∧ 3 + 1 ≤ cs.length ∧ v.cells.all D.one = true then bldD Try.prog 24 (cs.take 3 ++ v.cells ++ cs.drop (3 + 1)) ps else none := bld_cons (ty := 3) (by kernel_rfl) sz3
theorem bu33 : ∀ ps, buildD Try.prog 33 ps = (bldD Try.prog 33 [.int .i64 0, .int .i64 0] ps).map .agg := buildD_eq ze33 (by kernel_rfl)
theorem bc33_0 : ∀ cs v ps, bldD Try.prog 33 cs ((0, v) :: ps) = if v.cells.length = 1 ∧ 0 + 1 ≤ cs.length ∧ v.cells.all D.one = true then bldD Try.prog 33 (cs.take 0 ++ v.cells ++ cs.drop (0 + 1)) ps else none := bld_cons (ty := 3) (by kernel_rfl) sz3
theorem bc33_1 : ∀ cs v ps, bldD Try.prog 33 cs ((1, v) :: ps) = if v.cells.length = 1 ∧ 1 + 1 ≤ cs.length ∧ v.cells.all D.one = true then bldD Try.prog 33 (cs.take 1 ++ v.cells ++ cs.drop (1 + 1)) ps else none := bld_cons (ty := 3) (by kernel_rfl) sz3
theorem bu48 : ∀ ps, buildD Try.prog 48 ps = (bldD Try.prog 48 [.snil, .int .i64 0, .int .i64 0, .int .i64 0] ps).map .agg := buildD_eq ze48 (by kernel_rfl)
theorem bc48_0 : ∀ cs v ps, bldD Try.prog 48 cs ((0, v) :: ps) = if v.cells.length = 4 ∧ 0 + 4 ≤ cs.length ∧ v.cells.all D.one = true then bldD Try.prog 48 (cs.take 0 ++ v.cells ++ cs.drop (0 + 4)) ps else none := bld_cons (ty := 24) (by kernel_rfl) sz24
theorem ft33 : flatT Try.prog 33 = some [1, 1] := by kernel_rfl
theorem dr3_13 : drawInfo Try.prog cfg (opsAt Try.f3 13) = some [] := by kernel_rfl
theorem dr4_14 : drawInfo Try.prog cfg (opsAt Try.f4 14) = some [] := by kernel_rfl
theorem dr4_16 : drawInfo Try.prog cfg (opsAt Try.f4 16) = some [] := by kernel_rfl
theorem dr5_7 : drawInfo Try.prog cfg (opsAt Try.f5 7) = some [(1, 4)] := by kernel_rfl
theorem dr5_12 : drawInfo Try.prog cfg (opsAt Try.f5 12) = some [] := by kernel_rfl
theorem dr5_19 : drawInfo Try.prog cfg (opsAt Try.f5 19) = some [] := by kernel_rfl
theorem dr6_4 : drawInfo Try.prog cfg (opsAt Try.f6 4) = some [] := by kernel_rfl
theorem dr6_7 : drawInfo Try.prog cfg (opsAt Try.f6 7) = some [] := by kernel_rfl
theorem dr7_7 : drawInfo Try.prog cfg (opsAt Try.f7 7) = some [] := by kernel_rfl
theorem dr7_9 : drawInfo Try.prog cfg (opsAt Try.f7 9) = some [] := by kernel_rfl
theorem dr8_7 : drawInfo Try.prog cfg (opsAt Try.f8 7) = some [(4, 3)] := by kernel_rfl
theorem dr10_11 : drawInfo Try.prog cfg (opsAt Try.f10 11) = some [] := by kernel_rfl
theorem dr12_8 : drawInfo Try.prog cfg (opsAt Try.f12 8) = some [] := by kernel_rfl
theorem dr13_4 : drawInfo Try.prog cfg (opsAt Try.f13 4) = some [(2, 10), (9, 10)] := by kernel_rfl
theorem dr14_5 : drawInfo Try.prog cfg (opsAt Try.f14 5) = some [(6, 7)] := by kernel_rfl
theorem dr15_4 : drawInfo Try.prog cfg (opsAt Try.f15 4) = some [(2, 3)] := by kernel_rfl
theorem dr16_8 : drawInfo Try.prog cfg (opsAt Try.f16 8) = some [(3, 4)] := by kernel_rfl
theorem dr22_6 : drawInfo Try.prog cfg (opsAt Try.f22 6) = some [] := by kernel_rfl
theorem dr28_3 : drawInfo Try.prog cfg (opsAt Try.f28 3) = some [] := by kernel_rfl
theorem dr31_4 : drawInfo Try.prog cfg (opsAt Try.f31 4) = some [(1, 2)] := by kernel_rfl
theorem dr33_5 : drawInfo Try.prog cfg (opsAt Try.f33 5) = some [] := by kernel_rfl
attribute [simp] ag3 sz3 by3 ze3 un3 ag4 sz4 by4 ze4 un4 ag22 sz22 by22 ze22 un22 el22 ag24 sz24 by24 ze24 ag25 sz25 by25 ze25 un25 ag28 sz28 by28 ze28 un28 ag33 sz33 by33 ze33 ag48 sz48 by48 ze48 fp24_0 fq24_0 fp24_1 fq24_1 fp24_2 fq24_2 fp24_3 fq24_3 fp48_0 fq48_0 bu24 bc24_0 bc24_1 bc24_2 bc24_3 bu33 bc33_0 bc33_1 bu48 bc48_0 ft33 sh3 sh4 sh5 sh6 sh7 sh8 sh9 sh10 sh11 sh12 sh13 sh14 sh15 sh16 sh17 sh18 sh19 sh20 sh21 sh22 sh23 sh24 sh25 sh26 sh27 sh28 sh29 sh30 sh31 sh32 sh33 sh34
attribute [local simp] fits_agg fits_one
theorem lit22_0 (dst ty pos af g st ps) : opD Try.prog cfg R ⟨dst, .buildSlice 22 0 ps, ty, pos, af, g⟩ st = (evps st.σ ps.toList).bind (litK 2 true [] st.h) := lit_eq dst ty pos af g st ps el22 sz33 ag33 ze33 rfl (by simp) (by decide) (by decide)
theorem litn22_0 (dst ty pos af g st ps) : opD Try.prog ⟨cfg.shared, cfg.ext, true, cfg.lit⟩ R ⟨dst, .buildSlice 22 0 ps, ty, pos, af, g⟩ st = (evps st.σ ps.toList).bind (litK 2 true [] st.h) := lit_eq dst ty pos af g st ps el22 sz33 ag33 ze33 rfl (by simp) (by decide) (by decide)
theorem lit22_1 (dst ty pos af g st ps) : opD Try.prog cfg R ⟨dst, .buildSlice 22 1 ps, ty, pos, af, g⟩ st = (evps st.σ ps.toList).bind (litK 2 true [(.agg [.int .i64 0, .int .i64 0])] st.h) := lit_eq dst ty pos af g st ps el22 sz33 ag33 ze33 rfl (by simp) (by decide) (by decide)
theorem litn22_1 (dst ty pos af g st ps) : opD Try.prog ⟨cfg.shared, cfg.ext, true, cfg.lit⟩ R ⟨dst, .buildSlice 22 1 ps, ty, pos, af, g⟩ st = (evps st.σ ps.toList).bind (litK 2 true [(.agg [.int .i64 0, .int .i64 0])] st.h) := lit_eq dst ty pos af g st ps el22 sz33 ag33 ze33 rfl (by simp) (by decide) (by decide)
theorem lit22_2 (dst ty pos af g st ps) : opD Try.prog cfg R ⟨dst, .buildSlice 22 2 ps, ty, pos, af, g⟩ st = (evps st.σ ps.toList).bind (litK 2 true [(.agg [.int .i64 0, .int .i64 0]), (.agg [.int .i64 0, .int .i64 0])] st.h) := lit_eq dst ty pos af g st ps el22 sz33 ag33 ze33 rfl (by simp) (by decide) (by decide)
theorem litn22_2 (dst ty pos af g st ps) : opD Try.prog ⟨cfg.shared, cfg.ext, true, cfg.lit⟩ R ⟨dst, .buildSlice 22 2 ps, ty, pos, af, g⟩ st = (evps st.σ ps.toList).bind (litK 2 true [(.agg [.int .i64 0, .int .i64 0]), (.agg [.int .i64 0, .int .i64 0])] st.h) := lit_eq dst ty pos af g st ps el22 sz33 ag33 ze33 rfl (by simp) (by decide) (by decide)
theorem lit22_3 (dst ty pos af g st ps) : opD Try.prog cfg R ⟨dst, .buildSlice 22 3 ps, ty, pos, af, g⟩ st = (evps st.σ ps.toList).bind (litK 2 true [(.agg [.int .i64 0, .int .i64 0]), (.agg [.int .i64 0, .int .i64 0]), (.agg [.int .i64 0, .int .i64 0])] st.h) := lit_eq dst ty pos af g st ps el22 sz33 ag33 ze33 rfl (by simp) (by decide) (by decide)
theorem litn22_3 (dst ty pos af g st ps) : opD Try.prog ⟨cfg.shared, cfg.ext, true, cfg.lit⟩ R ⟨dst, .buildSlice 22 3 ps, ty, pos, af, g⟩ st = (evps st.σ ps.toList).bind (litK 2 true [(.agg [.int .i64 0, .int .i64 0]), (.agg [.int .i64 0, .int .i64 0]), (.agg [.int .i64 0, .int .i64 0])] st.h) := lit_eq dst ty pos af g st ps el22 sz33 ag33 ze33 rfl (by simp) (by decide) (by decide)
theorem lit22_5 (dst ty pos af g st ps) : opD Try.prog cfg R ⟨dst, .buildSlice 22 5 ps, ty, pos, af, g⟩ st = (evps st.σ ps.toList).bind (litK 2 true [(.agg [.int .i64 0, .int .i64 0]), (.agg [.int .i64 0, .int .i64 0]), (.agg [.int .i64 0, .int .i64 0]), (.agg [.int .i64 0, .int .i64 0]), (.agg [.int .i64 0, .int .i64 0])] st.h) := lit_eq dst ty pos af g st ps el22 sz33 ag33 ze33 rfl (by simp) (by decide) (by decide)
theorem litn22_5 (dst ty pos af g st ps) : opD Try.prog ⟨cfg.shared, cfg.ext, true, cfg.lit⟩ R ⟨dst, .buildSlice 22 5 ps, ty, pos, af, g⟩ st = (evps st.σ ps.toList).bind (litK 2 true [(.agg [.int .i64 0, .int .i64 0]), (.agg [.int .i64 0, .int .i64 0]), (.agg [.int .i64 0, .int .i64 0]), (.agg [.int .i64 0, .int .i64 0]), (.agg [.int .i64 0, .int .i64 0])] st.h) := lit_eq dst ty pos af g st ps el22 sz33 ag33 ze33 rfl (by simp) (by decide) (by decide)
theorem le22 (h ty) (x : D) : builtinD Try.prog h .len #[22] ty [x] = (lenS x).map fun (n : Nat) => (D.int .i64 (n : Int), h) := bu_len (t := 22) rfl un22
theorem ap22 (h ty s x) : builtinD Try.prog h .append #[22, 22] ty [s, x] = (elsZ h 2 s).bind fun old => (elsZ h 2 x).bind (apK 16 2 h s old) := app_eq rfl rfl el22 un22 sz33 sz33 by33 ag33 (by simp [zeroOk]) (by decide) (by decide) h ty s x
theorem cp22 (h ty d s) : builtinD Try.prog h .copy #[22, 22] ty [d, s] = (lenS d).bind fun dl => (elsZ h 2 s).bind fun xs => cpN 2 h d (Nat.min xs.length dl) xs := copy_eq rfl el22 sz33 h ty d s
theorem ixs22 (xs tg i) : indexAddrD Try.prog 22 (.sl 2 xs tg) i = (idxD xs.length i).map fun i => .fptr 2 xs i 0 := ixsl_eq un22 sz33 xs tg i
theorem ixo22 (id ver off len i) : indexAddrD Try.prog 22 (.own 2 id ver off len) i = (idxD len i).map fun i => .ptr id ver (off + i) 0 := ixown_eq un22 sz33 id ver off len i
theorem le25 (h ty) (x : D) : builtinD Try.prog h .len #[25] ty [x] = some (.int .i64 2, h) := by simp [builtinD, un25]
attribute [simp] lit22_0 litn22_0 lit22_1 litn22_1 lit22_2 litn22_2 lit22_3 litn22_3 lit22_5 litn22_5 le22 ap22 cp22 ixs22 ixo22 le25
end Go.Proofs.YtclfpfdpaigdiaaW.Vm
