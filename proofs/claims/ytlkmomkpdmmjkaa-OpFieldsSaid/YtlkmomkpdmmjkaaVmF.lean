/- What the types of this program are, and which regions have their order open: for simp. Printed by facts.py. No conditions. -/
import Derived.Test.YtlkmomkpdmmjkaaVmSim
import Derived.Test.YtlkmomkpdmmjkaaProg
import Derived.KernelRfl
set_option linter.unusedVariables false
set_option linter.unusedSimpArgs false
namespace Go.Proofs.YtlkmomkpdmmjkaaW.Vm
open Go Go.Proofs
def cfg : Cfg := { shared := fun f => false, ext := fun f => if f = 24 then some (fun (a : List D) => match a with | [.str s] => if s.data.toList == [109, 117, 108] then some (.tup [.int .i64 5, .bool true]) else if s.data.toList == [77, 117, 108] then some (.tup [.int .i64 0, .bool false]) else none | _ => none) else none, lit := fun t n => !(false) }
theorem cfg_lit (t n : Nat) : cfg.lit t n = (!(false)) := rfl
theorem cfg_nomark : cfg.nomark = false := rfl
noncomputable abbrev R : Run := W Try.prog cfg
theorem sh3 : cfg.shared 3 = false := by decide
theorem sh4 : cfg.shared 4 = false := by decide
theorem sh5 : cfg.shared 5 = false := by decide
theorem sh6 : cfg.shared 6 = false := by decide
theorem sh7 : cfg.shared 7 = false := by decide
theorem sh8 : cfg.shared 8 = false := by decide
theorem sh9 : cfg.shared 9 = false := by decide
theorem sh10 : cfg.shared 10 = false := by decide
theorem sh11 : cfg.shared 11 = false := by decide
theorem sh12 : cfg.shared 12 = false := by decide
theorem sh13 : cfg.shared 13 = false := by decide
theorem sh14 : cfg.shared 14 = false := by decide
theorem sh15 : cfg.shared 15 = false := by decide
theorem sh16 : cfg.shared 16 = false := by decide
theorem sh17 : cfg.shared 17 = false := by decide
theorem sh18 : cfg.shared 18 = false := by decide
theorem sh19 : cfg.shared 19 = false := by decide
theorem sh20 : cfg.shared 20 = false := by decide
theorem sh21 : cfg.shared 21 = false := by decide
theorem sh22 : cfg.shared 22 = false := by decide
theorem sh23 : cfg.shared 23 = false := by decide
theorem sh24 : cfg.shared 24 = false := by decide
theorem sh25 : cfg.shared 25 = false := by decide
theorem sh26 : cfg.shared 26 = false := by decide
theorem sh27 : cfg.shared 27 = false := by decide
theorem sh28 : cfg.shared 28 = false := by decide
theorem sh29 : cfg.shared 29 = false := by decide
theorem sh30 : cfg.shared 30 = false := by decide
theorem sh31 : cfg.shared 31 = false := by decide
theorem sh32 : cfg.shared 32 = false := by decide
theorem sh33 : cfg.shared 33 = false := by decide
theorem sh34 : cfg.shared 34 = false := by decide
theorem sh35 : cfg.shared 35 = false := by decide
theorem sh36 : cfg.shared 36 = false := by decide
theorem sh37 : cfg.shared 37 = false := by decide
theorem sh38 : cfg.shared 38 = false := by decide
theorem sh39 : cfg.shared 39 = false := by decide
theorem sh40 : cfg.shared 40 = false := by decide
theorem sh42 : cfg.shared 42 = false := by decide
theorem sh43 : cfg.shared 43 = false := by decide
theorem sh44 : cfg.shared 44 = false := by decide
theorem sh45 : cfg.shared 45 = false := by decide
theorem sh46 : cfg.shared 46 = false := by decide
theorem sh47 : cfg.shared 47 = false := by decide
theorem sh48 : cfg.shared 48 = false := by decide
theorem ag3 : aggT Try.prog 3 = some false := by kernel_rfl
theorem sz3 : szT Try.prog 3 = some 1 := by kernel_rfl
theorem by3 : byT Try.prog 3 = some 8 := by kernel_rfl
theorem ze3 : zeroT Try.prog 3 = some (.int .i64 0) := by kernel_rfl
theorem un3 : Try.prog.underlying 3 = some (.int .i64) := by kernel_rfl
theorem ag4 : aggT Try.prog 4 = some false := by kernel_rfl
theorem sz4 : szT Try.prog 4 = some 1 := by kernel_rfl
theorem by4 : byT Try.prog 4 = some 1 := by kernel_rfl
theorem ze4 : zeroT Try.prog 4 = some (.bool false) := by kernel_rfl
theorem un4 : Try.prog.underlying 4 = some .bool := by kernel_rfl
theorem ag9 : aggT Try.prog 9 = some false := by kernel_rfl
theorem sz9 : szT Try.prog 9 = some 1 := by kernel_rfl
theorem by9 : byT Try.prog 9 = some 16 := by kernel_rfl
theorem ze9 : zeroT Try.prog 9 = some (.str ByteArray.empty) := by kernel_rfl
theorem un9 : Try.prog.underlying 9 = some .string := by kernel_rfl
theorem ag25 : aggT Try.prog 25 = some true := by kernel_rfl
theorem sz25 : szT Try.prog 25 = some 2 := by kernel_rfl
theorem by25 : byT Try.prog 25 = some 16 := by kernel_rfl
theorem ze25 : zeroT Try.prog 25 = some (.agg [.int .i64 0, .int .i64 0]) := by kernel_rfl
theorem ag31 : aggT Try.prog 31 = some false := by kernel_rfl
theorem sz31 : szT Try.prog 31 = some 1 := by kernel_rfl
theorem by31 : byT Try.prog 31 = some 24 := by kernel_rfl
theorem ze31 : zeroT Try.prog 31 = some (.snil) := by kernel_rfl
theorem un31 : Try.prog.underlying 31 = some (.slice 3) := by kernel_rfl
theorem el31 : elemT Try.prog 31 = some 3 := by kernel_rfl
theorem ag33 : aggT Try.prog 33 = some true := by kernel_rfl
theorem sz33 : szT Try.prog 33 = some 3 := by kernel_rfl
theorem by33 : byT Try.prog 33 = some 24 := by kernel_rfl
theorem ze33 : zeroT Try.prog 33 = some (.agg [.int .i64 0, .int .i64 0, .int .i64 0]) := by kernel_rfl
theorem ag43 : aggT Try.prog 43 = some false := by kernel_rfl
theorem sz43 : szT Try.prog 43 = some 1 := by kernel_rfl
theorem by43 : byT Try.prog 43 = some 4 := by kernel_rfl
theorem ze43 : zeroT Try.prog 43 = some (.int .u32 0) := by kernel_rfl
theorem un43 : Try.prog.underlying 43 = some (.int .u32) := by kernel_rfl
theorem ag47 : aggT Try.prog 47 = some true := by kernel_rfl
theorem sz47 : szT Try.prog 47 = some 4 := by kernel_rfl
theorem by47 : byT Try.prog 47 = some 40 := by kernel_rfl
theorem ze47 : zeroT Try.prog 47 = some (.agg [.str ByteArray.empty, .int .i64 0, .int .i64 0, .int .i64 0]) := by kernel_rfl
theorem ag48 : aggT Try.prog 48 = some true := by kernel_rfl
theorem sz48 : szT Try.prog 48 = some 68 := by kernel_rfl
theorem by48 : byT Try.prog 48 = some 680 := by kernel_rfl
theorem ze48 : zeroT Try.prog 48 = some (.agg [.str ByteArray.empty, .int .i64 0, .int .i64 0, .int .i64 0, .str ByteArray.empty, .int .i64 0, .int .i64 0, .int .i64 0, .str ByteArray.empty, .int .i64 0, .int .i64 0, .int .i64 0, .str ByteArray.empty, .int .i64 0, .int .i64 0, .int .i64 0, .str ByteArray.empty, .int .i64 0, .int .i64 0, .int .i64 0, .str ByteArray.empty, .int .i64 0, .int .i64 0, .int .i64 0, .str ByteArray.empty, .int .i64 0, .int .i64 0, .int .i64 0, .str ByteArray.empty, .int .i64 0, .int .i64 0, .int .i64 0, .str ByteArray.empty, .int .i64 0, .int .i64 0, .int .i64 0, .str ByteArray.empty, .int .i64 0, .int .i64 0, .int .i64 0, .str ByteArray.empty, .int .i64 0, .int .i64 0, .int .i64 0, .str ByteArray.empty, .int .i64 0, .int .i64 0, .int .i64 0, .str ByteArray.empty, .int .i64 0, .int .i64 0, .int .i64 0, .str ByteArray.empty, .int .i64 0, .int .i64 0, .int .i64 0, .str ByteArray.empty, .int .i64 0, .int .i64 0, .int .i64 0, .str ByteArray.empty, .int .i64 0, .int .i64 0, .int .i64 0, .str ByteArray.empty, .int .i64 0, .int .i64 0, .int .i64 0]) := by kernel_rfl
theorem un48 : Try.prog.underlying 48 = some (.array 17 47) := by kernel_rfl
theorem ag53 : aggT Try.prog 53 = some false := by kernel_rfl
theorem sz53 : szT Try.prog 53 = some 1 := by kernel_rfl
theorem by53 : byT Try.prog 53 = some 24 := by kernel_rfl
theorem ze53 : zeroT Try.prog 53 = some (.snil) := by kernel_rfl
theorem un53 : Try.prog.underlying 53 = some (.slice 9) := by kernel_rfl
theorem el53 : elemT Try.prog 53 = some 9 := by kernel_rfl
theorem ag57 : aggT Try.prog 57 = some true := by kernel_rfl
theorem sz57 : szT Try.prog 57 = some 2 := by kernel_rfl
theorem by57 : byT Try.prog 57 = some 16 := by kernel_rfl
theorem ze57 : zeroT Try.prog 57 = some (.agg [.int .i64 0, .int .i64 0]) := by kernel_rfl
theorem fp25_0 : ∀ id ver i j, fieldAddrD Try.prog 25 0 (.ptr id ver i j) = some (.ptr id ver i (j + 0)) := fun id ver i j => fd_of (ty := 3) (by kernel_rfl) sz3 (by decide) _
theorem fq25_0 : ∀ z xs i j, fieldAddrD Try.prog 25 0 (.fptr z xs i j) = some (.fptr z xs i (j + 0)) := fun z xs i j => fd_of (ty := 3) (by kernel_rfl) sz3 (by decide) _
theorem fp25_1 : ∀ id ver i j, fieldAddrD Try.prog 25 1 (.ptr id ver i j) = some (.ptr id ver i (j + 1)) := fun id ver i j => fd_of (ty := 3) (by kernel_rfl) sz3 (by decide) _
theorem fq25_1 : ∀ z xs i j, fieldAddrD Try.prog 25 1 (.fptr z xs i j) = some (.fptr z xs i (j + 1)) := fun z xs i j => fd_of (ty := 3) (by kernel_rfl) sz3 (by decide) _
theorem fp33_0 : ∀ id ver i j, fieldAddrD Try.prog 33 0 (.ptr id ver i j) = some (.ptr id ver i (j + 0)) := fun id ver i j => fd_of (ty := 3) (by kernel_rfl) sz3 (by decide) _
theorem fq33_0 : ∀ z xs i j, fieldAddrD Try.prog 33 0 (.fptr z xs i j) = some (.fptr z xs i (j + 0)) := fun z xs i j => fd_of (ty := 3) (by kernel_rfl) sz3 (by decide) _
theorem fp33_1 : ∀ id ver i j, fieldAddrD Try.prog 33 1 (.ptr id ver i j) = some (.ptr id ver i (j + 1)) := fun id ver i j => fd_of (ty := 3) (by kernel_rfl) sz3 (by decide) _
theorem fq33_1 : ∀ z xs i j, fieldAddrD Try.prog 33 1 (.fptr z xs i j) = some (.fptr z xs i (j + 1)) := fun z xs i j => fd_of (ty := 3) (by kernel_rfl) sz3 (by decide) _
theorem fp33_2 : ∀ id ver i j, fieldAddrD Try.prog 33 2 (.ptr id ver i j) = some (.ptr id ver i (j + 2)) := fun id ver i j => fd_of (ty := 3) (by kernel_rfl) sz3 (by decide) _
theorem fq33_2 : ∀ z xs i j, fieldAddrD Try.prog 33 2 (.fptr z xs i j) = some (.fptr z xs i (j + 2)) := fun z xs i j => fd_of (ty := 3) (by kernel_rfl) sz3 (by decide) _
theorem fp47_0 : ∀ id ver i j, fieldAddrD Try.prog 47 0 (.ptr id ver i j) = some (.ptr id ver i (j + 0)) := fun id ver i j => fd_of (ty := 9) (by kernel_rfl) sz9 (by decide) _
theorem fq47_0 : ∀ z xs i j, fieldAddrD Try.prog 47 0 (.fptr z xs i j) = some (.fptr z xs i (j + 0)) := fun z xs i j => fd_of (ty := 9) (by kernel_rfl) sz9 (by decide) _
theorem fp47_2 : ∀ id ver i j, fieldAddrD Try.prog 47 2 (.ptr id ver i j) = some (.ptr id ver i (j + 2)) := fun id ver i j => fd_of (ty := 3) (by kernel_rfl) sz3 (by decide) _
theorem fq47_2 : ∀ z xs i j, fieldAddrD Try.prog 47 2 (.fptr z xs i j) = some (.fptr z xs i (j + 2)) := fun z xs i j => fd_of (ty := 3) (by kernel_rfl) sz3 (by decide) _
theorem fp47_3 : ∀ id ver i j, fieldAddrD Try.prog 47 3 (.ptr id ver i j) = some (.ptr id ver i (j + 3)) := fun id ver i j => fd_of (ty := 3) (by kernel_rfl) sz3 (by decide) _
theorem fq47_3 : ∀ z xs i j, fieldAddrD Try.prog 47 3 (.fptr z xs i j) = some (.fptr z xs i (j + 3)) := fun z xs i j => fd_of (ty := 3) (by kernel_rfl) sz3 (by decide) _
theorem fp57_0 : ∀ id ver i j, fieldAddrD Try.prog 57 0 (.ptr id ver i j) = some (.ptr id ver i (j + 0)) := fun id ver i j => fd_of (ty := 3) (by kernel_rfl) sz3 (by decide) _
theorem fq57_0 : ∀ z xs i j, fieldAddrD Try.prog 57 0 (.fptr z xs i j) = some (.fptr z xs i (j + 0)) := fun z xs i j => fd_of (ty := 3) (by kernel_rfl) sz3 (by decide) _
theorem fp57_1 : ∀ id ver i j, fieldAddrD Try.prog 57 1 (.ptr id ver i j) = some (.ptr id ver i (j + 1)) := fun id ver i j => fd_of (ty := 3) (by kernel_rfl) sz3 (by decide) _
theorem fq57_1 : ∀ z xs i j, fieldAddrD Try.prog 57 1 (.fptr z xs i j) = some (.fptr z xs i (j + 1)) := fun z xs i j => fd_of (ty := 3) (by kernel_rfl) sz3 (by decide) _
theorem fi47_0 : ∀ cs, fieldD Try.prog 47 0 (.agg cs) = partD Try.prog 9 cs 0 := fun cs => fi_of (by kernel_rfl) cs
theorem fi47_1 : ∀ cs, fieldD Try.prog 47 1 (.agg cs) = partD Try.prog 3 cs 1 := fun cs => fi_of (by kernel_rfl) cs
theorem bu25 : ∀ ps, buildD Try.prog 25 ps = (bldD Try.prog 25 [.int .i64 0, .int .i64 0] ps).map .agg := buildD_eq ze25 (by kernel_rfl)
theorem bc25_0 : ∀ cs v ps, bldD Try.prog 25 cs ((0, v) :: ps) = if v.cells.length = 1 ∧ 0 + 1 ≤ cs.length ∧ v.cells.all D.one = true then bldD Try.prog 25 (cs.take 0 ++ v.cells ++ cs.drop (0 + 1)) ps else none := bld_cons (ty := 3) (by kernel_rfl) sz3
theorem bc25_1 : ∀ cs v ps, bldD Try.prog 25 cs ((1, v) :: ps) = if v.cells.length = 1 ∧ 1 + 1 ≤ cs.length ∧ v.cells.all D.one = true then bldD Try.prog 25 (cs.take 1 ++ v.cells ++ cs.drop (1 + 1)) ps else none := bld_cons (ty := 3) (by kernel_rfl) sz3
theorem bu33 : ∀ ps, buildD Try.prog 33 ps = (bldD Try.prog 33 [.int .i64 0, .int .i64 0, .int .i64 0] ps).map .agg := buildD_eq ze33 (by kernel_rfl)
theorem bc33_0 : ∀ cs v ps, bldD Try.prog 33 cs ((0, v) :: ps) = if v.cells.length = 1 ∧ 0 + 1 ≤ cs.length ∧ v.cells.all D.one = true then bldD Try.prog 33 (cs.take 0 ++ v.cells ++ cs.drop (0 + 1)) ps else none := bld_cons (ty := 3) (by kernel_rfl) sz3
theorem bc33_1 : ∀ cs v ps, bldD Try.prog 33 cs ((1, v) :: ps) = if v.cells.length = 1 ∧ 1 + 1 ≤ cs.length ∧ v.cells.all D.one = true then bldD Try.prog 33 (cs.take 1 ++ v.cells ++ cs.drop (1 + 1)) ps else none := bld_cons (ty := 3) (by kernel_rfl) sz3
theorem bc33_2 : ∀ cs v ps, bldD Try.prog 33 cs ((2, v) :: ps) = if v.cells.length = 1 ∧ 2 + 1 ≤ cs.length ∧ v.cells.all D.one = true then bldD Try.prog 33 (cs.take 2 ++ v.cells ++ cs.drop (2 + 1)) ps else none := bld_cons (ty := 3) (by kernel_rfl) sz3
theorem bu47 : ∀ ps, buildD Try.prog 47 ps = (bldD Try.prog 47 [.str ByteArray.empty, .int .i64 0, .int .i64 0, .int .i64 0] ps).map .agg := buildD_eq ze47 (by kernel_rfl)
theorem bc47_0 : ∀ cs v ps, bldD Try.prog 47 cs ((0, v) :: ps) = if v.cells.length = 1 ∧ 0 + 1 ≤ cs.length ∧ v.cells.all D.one = true then bldD Try.prog 47 (cs.take 0 ++ v.cells ++ cs.drop (0 + 1)) ps else none := bld_cons (ty := 9) (by kernel_rfl) sz9
theorem bc47_1 : ∀ cs v ps, bldD Try.prog 47 cs ((1, v) :: ps) = if v.cells.length = 1 ∧ 1 + 1 ≤ cs.length ∧ v.cells.all D.one = true then bldD Try.prog 47 (cs.take 1 ++ v.cells ++ cs.drop (1 + 1)) ps else none := bld_cons (ty := 3) (by kernel_rfl) sz3
theorem bc47_2 : ∀ cs v ps, bldD Try.prog 47 cs ((2, v) :: ps) = if v.cells.length = 1 ∧ 2 + 1 ≤ cs.length ∧ v.cells.all D.one = true then bldD Try.prog 47 (cs.take 2 ++ v.cells ++ cs.drop (2 + 1)) ps else none := bld_cons (ty := 3) (by kernel_rfl) sz3
theorem bc47_3 : ∀ cs v ps, bldD Try.prog 47 cs ((3, v) :: ps) = if v.cells.length = 1 ∧ 3 + 1 ≤ cs.length ∧ v.cells.all D.one = true then bldD Try.prog 47 (cs.take 3 ++ v.cells ++ cs.drop (3 + 1)) ps else none := bld_cons (ty := 3) (by kernel_rfl) sz3
theorem bu57 : ∀ ps, buildD Try.prog 57 ps = (bldD Try.prog 57 [.int .i64 0, .int .i64 0] ps).map .agg := buildD_eq ze57 (by kernel_rfl)
theorem bc57_0 : ∀ cs v ps, bldD Try.prog 57 cs ((0, v) :: ps) = if v.cells.length = 1 ∧ 0 + 1 ≤ cs.length ∧ v.cells.all D.one = true then bldD Try.prog 57 (cs.take 0 ++ v.cells ++ cs.drop (0 + 1)) ps else none := bld_cons (ty := 3) (by kernel_rfl) sz3
theorem bc57_1 : ∀ cs v ps, bldD Try.prog 57 cs ((1, v) :: ps) = if v.cells.length = 1 ∧ 1 + 1 ≤ cs.length ∧ v.cells.all D.one = true then bldD Try.prog 57 (cs.take 1 ++ v.cells ++ cs.drop (1 + 1)) ps else none := bld_cons (ty := 3) (by kernel_rfl) sz3
theorem ft25 : flatT Try.prog 25 = some [1, 1] := by kernel_rfl
theorem dr5_6 : drawInfo Try.prog cfg (opsAt Try.f5 6) = some [] := by kernel_rfl
theorem dr8_6 : drawInfo Try.prog cfg (opsAt Try.f8 6) = some [] := by kernel_rfl
theorem dr10_6 : drawInfo Try.prog cfg (opsAt Try.f10 6) = some [(1, 4)] := by kernel_rfl
theorem dr26_2 : drawInfo Try.prog cfg (opsAt Try.f26 2) = some [] := by kernel_rfl
theorem dr34_6 : drawInfo Try.prog cfg (opsAt Try.f34 6) = some [] := by kernel_rfl
theorem dr45_4 : drawInfo Try.prog cfg (opsAt Try.f45 4) = some [(1, 2)] := by kernel_rfl
theorem dr45_12 : drawInfo Try.prog cfg (opsAt Try.f45 12) = some [(1, 2)] := by kernel_rfl
attribute [simp] ag3 sz3 by3 ze3 un3 ag4 sz4 by4 ze4 un4 ag9 sz9 by9 ze9 un9 ag25 sz25 by25 ze25 ag31 sz31 by31 ze31 un31 el31 ag33 sz33 by33 ze33 ag43 sz43 by43 ze43 un43 ag47 sz47 by47 ze47 ag48 sz48 by48 ze48 un48 ag53 sz53 by53 ze53 un53 el53 ag57 sz57 by57 ze57 fp25_0 fq25_0 fp25_1 fq25_1 fp33_0 fq33_0 fp33_1 fq33_1 fp33_2 fq33_2 fp47_0 fq47_0 fp47_2 fq47_2 fp47_3 fq47_3 fp57_0 fq57_0 fp57_1 fq57_1 fi47_0 fi47_1 bu25 bc25_0 bc25_1 bu33 bc33_0 bc33_1 bc33_2 bu47 bc47_0 bc47_1 bc47_2 bc47_3 bu57 bc57_0 bc57_1 ft25 sh3 sh4 sh5 sh6 sh7 sh8 sh9 sh10 sh11 sh12 sh13 sh14 sh15 sh16 sh17 sh18 sh19 sh20 sh21 sh22 sh23 sh24 sh25 sh26 sh27 sh28 sh29 sh30 sh31 sh32 sh33 sh34 sh35 sh36 sh37 sh38 sh39 sh40 sh42 sh43 sh44 sh45 sh46 sh47 sh48
attribute [local simp] fits_agg fits_one
theorem lit31_0 (dst ty pos af g st ps) : opD Try.prog cfg R ⟨dst, .buildSlice 31 0 ps, ty, pos, af, g⟩ st = (evps st.σ ps.toList).bind (litK 1 false [] st.h) := lit_eq dst ty pos af g st ps el31 sz3 ag3 ze3 rfl (by simp) (by decide) (by decide)
theorem litn31_0 (dst ty pos af g st ps) : opD Try.prog ⟨cfg.shared, cfg.ext, true, cfg.lit⟩ R ⟨dst, .buildSlice 31 0 ps, ty, pos, af, g⟩ st = (evps st.σ ps.toList).bind (litK 1 false [] st.h) := lit_eq dst ty pos af g st ps el31 sz3 ag3 ze3 rfl (by simp) (by decide) (by decide)
theorem lit31_2 (dst ty pos af g st ps) : opD Try.prog cfg R ⟨dst, .buildSlice 31 2 ps, ty, pos, af, g⟩ st = (evps st.σ ps.toList).bind (litK 1 false [(.int .i64 0), (.int .i64 0)] st.h) := lit_eq dst ty pos af g st ps el31 sz3 ag3 ze3 rfl (by simp) (by decide) (by decide)
theorem litn31_2 (dst ty pos af g st ps) : opD Try.prog ⟨cfg.shared, cfg.ext, true, cfg.lit⟩ R ⟨dst, .buildSlice 31 2 ps, ty, pos, af, g⟩ st = (evps st.σ ps.toList).bind (litK 1 false [(.int .i64 0), (.int .i64 0)] st.h) := lit_eq dst ty pos af g st ps el31 sz3 ag3 ze3 rfl (by simp) (by decide) (by decide)
theorem lit53_17 (dst ty pos af g st ps) : opD Try.prog cfg R ⟨dst, .buildSlice 53 17 ps, ty, pos, af, g⟩ st = (evps st.σ ps.toList).bind (litK 1 false [(.str ByteArray.empty), (.str ByteArray.empty), (.str ByteArray.empty), (.str ByteArray.empty), (.str ByteArray.empty), (.str ByteArray.empty), (.str ByteArray.empty), (.str ByteArray.empty), (.str ByteArray.empty), (.str ByteArray.empty), (.str ByteArray.empty), (.str ByteArray.empty), (.str ByteArray.empty), (.str ByteArray.empty), (.str ByteArray.empty), (.str ByteArray.empty), (.str ByteArray.empty)] st.h) := lit_eq dst ty pos af g st ps el53 sz9 ag9 ze9 rfl (by simp) (by decide) (by decide)
theorem litn53_17 (dst ty pos af g st ps) : opD Try.prog ⟨cfg.shared, cfg.ext, true, cfg.lit⟩ R ⟨dst, .buildSlice 53 17 ps, ty, pos, af, g⟩ st = (evps st.σ ps.toList).bind (litK 1 false [(.str ByteArray.empty), (.str ByteArray.empty), (.str ByteArray.empty), (.str ByteArray.empty), (.str ByteArray.empty), (.str ByteArray.empty), (.str ByteArray.empty), (.str ByteArray.empty), (.str ByteArray.empty), (.str ByteArray.empty), (.str ByteArray.empty), (.str ByteArray.empty), (.str ByteArray.empty), (.str ByteArray.empty), (.str ByteArray.empty), (.str ByteArray.empty), (.str ByteArray.empty)] st.h) := lit_eq dst ty pos af g st ps el53 sz9 ag9 ze9 rfl (by simp) (by decide) (by decide)
theorem le9 (h ty) (s : ByteArray) : builtinD Try.prog h .len #[9] ty [.str s] = some (.int .i64 s.size, h) := by simp [builtinD, un9]
theorem le31 (h ty) (x : D) : builtinD Try.prog h .len #[31] ty [x] = (lenS x).map fun (n : Nat) => (D.int .i64 (n : Int), h) := bu_len (t := 31) rfl un31
theorem ap31 (h ty s x) : builtinD Try.prog h .append #[31, 31] ty [s, x] = (elsZ h 1 s).bind fun old => (elsZ h 1 x).bind (apK 8 1 h s old) := app_eq rfl rfl el31 un31 sz3 sz3 by3 ag3 (by simp [zeroOk]) (by decide) (by decide) h ty s x
theorem cp31 (h ty d s) : builtinD Try.prog h .copy #[31, 31] ty [d, s] = (lenS d).bind fun dl => (elsZ h 1 s).bind fun xs => cpN 1 h d (Nat.min xs.length dl) xs := copy_eq rfl el31 sz3 h ty d s
theorem ixs31 (xs tg i) : indexAddrD Try.prog 31 (.sl 1 xs tg) i = (idxD xs.length i).map fun i => .fptr 1 xs i 0 := ixsl_eq un31 sz3 xs tg i
theorem ixo31 (id ver off len i) : indexAddrD Try.prog 31 (.own 1 id ver off len) i = (idxD len i).map fun i => .ptr id ver (off + i) 0 := ixown_eq un31 sz3 id ver off len i
theorem le48 (h ty) (x : D) : builtinD Try.prog h .len #[48] ty [x] = some (.int .i64 17, h) := by simp [builtinD, un48]
theorem le53 (h ty) (x : D) : builtinD Try.prog h .len #[53] ty [x] = (lenS x).map fun (n : Nat) => (D.int .i64 (n : Int), h) := bu_len (t := 53) rfl un53
theorem ap53 (h ty s x) : builtinD Try.prog h .append #[53, 53] ty [s, x] = (elsZ h 1 s).bind fun old => (elsZ h 1 x).bind (apK 16 1 h s old) := app_eq rfl rfl el53 un53 sz9 sz9 by9 ag9 (by simp [zeroOk]) (by decide) (by decide) h ty s x
theorem cp53 (h ty d s) : builtinD Try.prog h .copy #[53, 53] ty [d, s] = (lenS d).bind fun dl => (elsZ h 1 s).bind fun xs => cpN 1 h d (Nat.min xs.length dl) xs := copy_eq rfl el53 sz9 h ty d s
theorem ixs53 (xs tg i) : indexAddrD Try.prog 53 (.sl 1 xs tg) i = (idxD xs.length i).map fun i => .fptr 1 xs i 0 := ixsl_eq un53 sz9 xs tg i
theorem ixo53 (id ver off len i) : indexAddrD Try.prog 53 (.own 1 id ver off len) i = (idxD len i).map fun i => .ptr id ver (off + i) 0 := ixown_eq un53 sz9 id ver off len i
attribute [simp] lit31_0 litn31_0 lit31_2 litn31_2 lit53_17 litn53_17 le9 le31 ap31 cp31 ixs31 ixo31 le48 le53 ap53 cp53 ixs53 ixo53
end Go.Proofs.YtlkmomkpdmmjkaaW.Vm
