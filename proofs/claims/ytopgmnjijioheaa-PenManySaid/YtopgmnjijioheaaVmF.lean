/- What the types of this program are, and which regions have their order open: for simp. Printed by facts.py. No conditions. -/
import Derived.Test.YtopgmnjijioheaaVmSX
import Derived.Test.YtopgmnjijioheaaVmSim
import Derived.Test.YtopgmnjijioheaaProg
import Derived.KernelRfl
set_option linter.unusedVariables false
set_option linter.unusedSimpArgs false
namespace Go.Proofs.YtopgmnjijioheaaW.Vm
open Go Go.Proofs
def cfg : Cfg := { shared := fun f => f == 30 || f == 31 || f == 32 || f == 33 || f == 35 || f == 47 || f == 48, ext := fun f => if f = 42 then some (valuesG 51) else if f = 41 then some (sortedG 51) else none, lit := fun t n => !((t == 23 && n == 3)) }
theorem cfg_lit (t n : Nat) : cfg.lit t n = (!((t == 23 && n == 3))) := rfl
theorem cfg_nomark : cfg.nomark = false := rfl
noncomputable abbrev R : Run := W Try.prog cfg
theorem sh3 : cfg.shared 3 = false := by decide
theorem sh4 : cfg.shared 4 = false := by decide
theorem sh5 : cfg.shared 5 = false := by decide
theorem sh6 : cfg.shared 6 = false := by decide
theorem sh7 : cfg.shared 7 = false := by decide
theorem sh8 : cfg.shared 8 = false := by decide
theorem sh9 : cfg.shared 9 = false := by decide
theorem sh10 : cfg.shared 10 = false := by decide
theorem sh11 : cfg.shared 11 = false := by decide
theorem sh12 : cfg.shared 12 = false := by decide
theorem sh13 : cfg.shared 13 = false := by decide
theorem sh14 : cfg.shared 14 = false := by decide
theorem sh15 : cfg.shared 15 = false := by decide
theorem sh16 : cfg.shared 16 = false := by decide
theorem sh17 : cfg.shared 17 = false := by decide
theorem sh18 : cfg.shared 18 = false := by decide
theorem sh19 : cfg.shared 19 = false := by decide
theorem sh20 : cfg.shared 20 = false := by decide
theorem sh21 : cfg.shared 21 = false := by decide
theorem sh22 : cfg.shared 22 = false := by decide
theorem sh23 : cfg.shared 23 = false := by decide
theorem sh24 : cfg.shared 24 = false := by decide
theorem sh25 : cfg.shared 25 = false := by decide
theorem sh26 : cfg.shared 26 = false := by decide
theorem sh27 : cfg.shared 27 = false := by decide
theorem sh28 : cfg.shared 28 = false := by decide
theorem sh29 : cfg.shared 29 = false := by decide
theorem sh30 : cfg.shared 30 = true := by decide
theorem sh31 : cfg.shared 31 = true := by decide
theorem sh32 : cfg.shared 32 = true := by decide
theorem sh33 : cfg.shared 33 = true := by decide
theorem sh34 : cfg.shared 34 = false := by decide
theorem sh35 : cfg.shared 35 = true := by decide
theorem sh36 : cfg.shared 36 = false := by decide
theorem sh37 : cfg.shared 37 = false := by decide
theorem sh38 : cfg.shared 38 = false := by decide
theorem sh39 : cfg.shared 39 = false := by decide
theorem sh40 : cfg.shared 40 = false := by decide
theorem sh41 : cfg.shared 41 = false := by decide
theorem sh42 : cfg.shared 42 = false := by decide
theorem sh43 : cfg.shared 43 = false := by decide
theorem sh44 : cfg.shared 44 = false := by decide
theorem sh45 : cfg.shared 45 = false := by decide
theorem sh46 : cfg.shared 46 = false := by decide
theorem sh47 : cfg.shared 47 = true := by decide
theorem sh48 : cfg.shared 48 = true := by decide
theorem sh49 : cfg.shared 49 = false := by decide
theorem sh50 : cfg.shared 50 = false := by decide
theorem sh51 : cfg.shared 51 = false := by decide
theorem sh52 : cfg.shared 52 = false := by decide
theorem sh53 : cfg.shared 53 = false := by decide
theorem sh54 : cfg.shared 54 = false := by decide
theorem sh56 : cfg.shared 56 = false := by decide
theorem sh66 : cfg.shared 66 = false := by decide
theorem sh67 : cfg.shared 67 = false := by decide
theorem ag3 : aggT Try.prog 3 = some false := by kernel_rfl
theorem sz3 : szT Try.prog 3 = some 1 := by kernel_rfl
theorem by3 : byT Try.prog 3 = some 8 := by kernel_rfl
theorem ze3 : zeroT Try.prog 3 = some (.int .i64 0) := by kernel_rfl
theorem un3 : Try.prog.underlying 3 = some (.int .i64) := by kernel_rfl
theorem ag4 : aggT Try.prog 4 = some false := by kernel_rfl
theorem sz4 : szT Try.prog 4 = some 1 := by kernel_rfl
theorem by4 : byT Try.prog 4 = some 1 := by kernel_rfl
theorem ze4 : zeroT Try.prog 4 = some (.bool false) := by kernel_rfl
theorem un4 : Try.prog.underlying 4 = some .bool := by kernel_rfl
theorem ag5 : aggT Try.prog 5 = some false := by kernel_rfl
theorem sz5 : szT Try.prog 5 = some 1 := by kernel_rfl
theorem by5 : byT Try.prog 5 = some 1 := by kernel_rfl
theorem ze5 : zeroT Try.prog 5 = some (.int .u8 0) := by kernel_rfl
theorem un5 : Try.prog.underlying 5 = some (.int .u8) := by kernel_rfl
theorem ag9 : aggT Try.prog 9 = some false := by kernel_rfl
theorem sz9 : szT Try.prog 9 = some 1 := by kernel_rfl
theorem by9 : byT Try.prog 9 = some 16 := by kernel_rfl
theorem ze9 : zeroT Try.prog 9 = some (.str ByteArray.empty) := by kernel_rfl
theorem un9 : Try.prog.underlying 9 = some .string := by kernel_rfl
theorem ag22 : aggT Try.prog 22 = some false := by kernel_rfl
theorem sz22 : szT Try.prog 22 = some 1 := by kernel_rfl
theorem by22 : byT Try.prog 22 = some 24 := by kernel_rfl
theorem ze22 : zeroT Try.prog 22 = some (.snil) := by kernel_rfl
theorem un22 : Try.prog.underlying 22 = some (.slice 62) := by kernel_rfl
theorem el22 : elemT Try.prog 22 = some 62 := by kernel_rfl
theorem ag23 : aggT Try.prog 23 = some false := by kernel_rfl
theorem sz23 : szT Try.prog 23 = some 1 := by kernel_rfl
theorem by23 : byT Try.prog 23 = some 24 := by kernel_rfl
theorem ze23 : zeroT Try.prog 23 = some (.snil) := by kernel_rfl
theorem un23 : Try.prog.underlying 23 = some (.slice 3) := by kernel_rfl
theorem el23 : elemT Try.prog 23 = some 3 := by kernel_rfl
theorem ag25 : aggT Try.prog 25 = some true := by kernel_rfl
theorem sz25 : szT Try.prog 25 = some 3 := by kernel_rfl
theorem by25 : byT Try.prog 25 = some 56 := by kernel_rfl
theorem ze25 : zeroT Try.prog 25 = some (.agg [.snil, .snil, .int .i64 0]) := by kernel_rfl
theorem ag27 : aggT Try.prog 27 = some true := by kernel_rfl
theorem sz27 : szT Try.prog 27 = some 2 := by kernel_rfl
theorem by27 : byT Try.prog 27 = some 16 := by kernel_rfl
theorem ze27 : zeroT Try.prog 27 = some (.agg [.int .i64 0, .int .i64 0]) := by kernel_rfl
theorem ag28 : aggT Try.prog 28 = some false := by kernel_rfl
theorem sz28 : szT Try.prog 28 = some 1 := by kernel_rfl
theorem by28 : byT Try.prog 28 = some 24 := by kernel_rfl
theorem ze28 : zeroT Try.prog 28 = some (.snil) := by kernel_rfl
theorem un28 : Try.prog.underlying 28 = some (.slice 31) := by kernel_rfl
theorem el28 : elemT Try.prog 28 = some 31 := by kernel_rfl
theorem ag29 : aggT Try.prog 29 = some false := by kernel_rfl
theorem sz29 : szT Try.prog 29 = some 1 := by kernel_rfl
theorem by29 : byT Try.prog 29 = some 24 := by kernel_rfl
theorem ze29 : zeroT Try.prog 29 = some (.snil) := by kernel_rfl
theorem un29 : Try.prog.underlying 29 = some (.slice 73) := by kernel_rfl
theorem el29 : elemT Try.prog 29 = some 73 := by kernel_rfl
theorem ag31 : aggT Try.prog 31 = some true := by kernel_rfl
theorem sz31 : szT Try.prog 31 = some 2 := by kernel_rfl
theorem by31 : byT Try.prog 31 = some 16 := by kernel_rfl
theorem ze31 : zeroT Try.prog 31 = some (.agg [.int .i64 0, .int .i64 0]) := by kernel_rfl
theorem ag33 : aggT Try.prog 33 = some true := by kernel_rfl
theorem sz33 : szT Try.prog 33 = some 3 := by kernel_rfl
theorem by33 : byT Try.prog 33 = some 24 := by kernel_rfl
theorem ze33 : zeroT Try.prog 33 = some (.agg [.int .i64 0, .int .i64 0, .int .i64 0]) := by kernel_rfl
theorem ag35 : aggT Try.prog 35 = some true := by kernel_rfl
theorem sz35 : szT Try.prog 35 = some 16 := by kernel_rfl
theorem by35 : byT Try.prog 35 = some 176 := by kernel_rfl
theorem ze35 : zeroT Try.prog 35 = some (.agg [.int .i64 0, .int .i64 0, .snil, .snil, .snil, .int .i64 0, .int .i64 0, .int .i64 0, .int .i64 0, .int .i64 0, .int .i64 0, .int .i64 0, .int .i64 0, .int .i64 0, .int .i64 0, .int .i64 0]) := by kernel_rfl
theorem ag39 : aggT Try.prog 39 = some false := by kernel_rfl
theorem sz39 : szT Try.prog 39 = some 1 := by kernel_rfl
theorem by39 : byT Try.prog 39 = some 8 := by kernel_rfl
theorem ze39 : zeroT Try.prog 39 = some (.int .i64 0) := by kernel_rfl
theorem un39 : Try.prog.underlying 39 = some (.int .i64) := by kernel_rfl
theorem ag52 : aggT Try.prog 52 = some false := by kernel_rfl
theorem sz52 : szT Try.prog 52 = some 1 := by kernel_rfl
theorem by52 : byT Try.prog 52 = some 24 := by kernel_rfl
theorem ze52 : zeroT Try.prog 52 = some (.snil) := by kernel_rfl
theorem un52 : Try.prog.underlying 52 = some (.slice 27) := by kernel_rfl
theorem el52 : elemT Try.prog 52 = some 27 := by kernel_rfl
theorem ag57 : aggT Try.prog 57 = some false := by kernel_rfl
theorem sz57 : szT Try.prog 57 = some 1 := by kernel_rfl
theorem by57 : byT Try.prog 57 = some 24 := by kernel_rfl
theorem ze57 : zeroT Try.prog 57 = some (.snil) := by kernel_rfl
theorem un57 : Try.prog.underlying 57 = some (.slice 35) := by kernel_rfl
theorem el57 : elemT Try.prog 57 = some 35 := by kernel_rfl
theorem ag62 : aggT Try.prog 62 = some true := by kernel_rfl
theorem sz62 : szT Try.prog 62 = some 18 := by kernel_rfl
theorem by62 : byT Try.prog 62 = some 192 := by kernel_rfl
theorem ze62 : zeroT Try.prog 62 = some (.agg [.int .i64 0, .bool false, .int .i64 0, .int .i64 0, .snil, .snil, .snil, .int .i64 0, .int .i64 0, .int .i64 0, .int .i64 0, .int .i64 0, .int .i64 0, .int .i64 0, .int .i64 0, .int .i64 0, .int .i64 0, .int .i64 0]) := by kernel_rfl
theorem ag64 : aggT Try.prog 64 = some false := by kernel_rfl
theorem sz64 : szT Try.prog 64 = some 1 := by kernel_rfl
theorem by64 : byT Try.prog 64 = some 8 := by kernel_rfl
theorem ze64 : zeroT Try.prog 64 = some (.nil) := by kernel_rfl
theorem ag66 : aggT Try.prog 66 = some false := by kernel_rfl
theorem sz66 : szT Try.prog 66 = some 1 := by kernel_rfl
theorem by66 : byT Try.prog 66 = some 8 := by kernel_rfl
theorem ze66 : zeroT Try.prog 66 = some (.nil) := by kernel_rfl
theorem ag73 : aggT Try.prog 73 = some true := by kernel_rfl
theorem sz73 : szT Try.prog 73 = some 6 := by kernel_rfl
theorem by73 : byT Try.prog 73 = some 48 := by kernel_rfl
theorem ze73 : zeroT Try.prog 73 = some (.agg [.int .i64 0, .int .i64 0, .int .i64 0, .int .i64 0, .int .i64 0, .int .i64 0]) := by kernel_rfl
theorem ag89 : aggT Try.prog 89 = some false := by kernel_rfl
theorem sz89 : szT Try.prog 89 = some 1 := by kernel_rfl
theorem by89 : byT Try.prog 89 = some 8 := by kernel_rfl
theorem ze89 : zeroT Try.prog 89 = some (.int .u64 0) := by kernel_rfl
theorem un89 : Try.prog.underlying 89 = some (.int .u64) := by kernel_rfl
theorem ag100 : aggT Try.prog 100 = some false := by kernel_rfl
theorem sz100 : szT Try.prog 100 = some 1 := by kernel_rfl
theorem by100 : byT Try.prog 100 = some 4 := by kernel_rfl
theorem ze100 : zeroT Try.prog 100 = some (.int .u32 0) := by kernel_rfl
theorem un100 : Try.prog.underlying 100 = some (.int .u32) := by kernel_rfl
theorem ag102 : aggT Try.prog 102 = some false := by kernel_rfl
theorem sz102 : szT Try.prog 102 = some 1 := by kernel_rfl
theorem by102 : byT Try.prog 102 = some 8 := by kernel_rfl
theorem ze102 : zeroT Try.prog 102 = some (.int .u64 0) := by kernel_rfl
theorem un102 : Try.prog.underlying 102 = some (.int .u64) := by kernel_rfl
theorem fp25_0 : ∀ id ver i j, fieldAddrD Try.prog 25 0 (.ptr id ver i j) = some (.ptr id ver i (j + 0)) := fun id ver i j => fd_of (ty := 22) (by kernel_rfl) sz22 (by decide) _
theorem fq25_0 : ∀ z xs i j, fieldAddrD Try.prog 25 0 (.fptr z xs i j) = some (.fptr z xs i (j + 0)) := fun z xs i j => fd_of (ty := 22) (by kernel_rfl) sz22 (by decide) _
theorem fp25_1 : ∀ id ver i j, fieldAddrD Try.prog 25 1 (.ptr id ver i j) = some (.ptr id ver i (j + 1)) := fun id ver i j => fd_of (ty := 23) (by kernel_rfl) sz23 (by decide) _
theorem fq25_1 : ∀ z xs i j, fieldAddrD Try.prog 25 1 (.fptr z xs i j) = some (.fptr z xs i (j + 1)) := fun z xs i j => fd_of (ty := 23) (by kernel_rfl) sz23 (by decide) _
theorem fp25_2 : ∀ id ver i j, fieldAddrD Try.prog 25 2 (.ptr id ver i j) = some (.ptr id ver i (j + 2)) := fun id ver i j => fd_of (ty := 3) (by kernel_rfl) sz3 (by decide) _
theorem fq25_2 : ∀ z xs i j, fieldAddrD Try.prog 25 2 (.fptr z xs i j) = some (.fptr z xs i (j + 2)) := fun z xs i j => fd_of (ty := 3) (by kernel_rfl) sz3 (by decide) _
theorem fp27_0 : ∀ id ver i j, fieldAddrD Try.prog 27 0 (.ptr id ver i j) = some (.ptr id ver i (j + 0)) := fun id ver i j => fd_of (ty := 3) (by kernel_rfl) sz3 (by decide) _
theorem fq27_0 : ∀ z xs i j, fieldAddrD Try.prog 27 0 (.fptr z xs i j) = some (.fptr z xs i (j + 0)) := fun z xs i j => fd_of (ty := 3) (by kernel_rfl) sz3 (by decide) _
theorem fp27_1 : ∀ id ver i j, fieldAddrD Try.prog 27 1 (.ptr id ver i j) = some (.ptr id ver i (j + 1)) := fun id ver i j => fd_of (ty := 3) (by kernel_rfl) sz3 (by decide) _
theorem fq27_1 : ∀ z xs i j, fieldAddrD Try.prog 27 1 (.fptr z xs i j) = some (.fptr z xs i (j + 1)) := fun z xs i j => fd_of (ty := 3) (by kernel_rfl) sz3 (by decide) _
theorem fp35_0 : ∀ id ver i j, fieldAddrD Try.prog 35 0 (.ptr id ver i j) = some (.ptr id ver i (j + 0)) := fun id ver i j => fd_of (ty := 3) (by kernel_rfl) sz3 (by decide) _
theorem fq35_0 : ∀ z xs i j, fieldAddrD Try.prog 35 0 (.fptr z xs i j) = some (.fptr z xs i (j + 0)) := fun z xs i j => fd_of (ty := 3) (by kernel_rfl) sz3 (by decide) _
theorem fp35_1 : ∀ id ver i j, fieldAddrD Try.prog 35 1 (.ptr id ver i j) = some (.ptr id ver i (j + 1)) := fun id ver i j => fd_of (ty := 3) (by kernel_rfl) sz3 (by decide) _
theorem fq35_1 : ∀ z xs i j, fieldAddrD Try.prog 35 1 (.fptr z xs i j) = some (.fptr z xs i (j + 1)) := fun z xs i j => fd_of (ty := 3) (by kernel_rfl) sz3 (by decide) _
theorem fp35_2 : ∀ id ver i j, fieldAddrD Try.prog 35 2 (.ptr id ver i j) = some (.ptr id ver i (j + 2)) := fun id ver i j => fd_of (ty := 28) (by kernel_rfl) sz28 (by decide) _
theorem fq35_2 : ∀ z xs i j, fieldAddrD Try.prog 35 2 (.fptr z xs i j) = some (.fptr z xs i (j + 2)) := fun z xs i j => fd_of (ty := 28) (by kernel_rfl) sz28 (by decide) _
theorem fp35_3 : ∀ id ver i j, fieldAddrD Try.prog 35 3 (.ptr id ver i j) = some (.ptr id ver i (j + 3)) := fun id ver i j => fd_of (ty := 28) (by kernel_rfl) sz28 (by decide) _
theorem fq35_3 : ∀ z xs i j, fieldAddrD Try.prog 35 3 (.fptr z xs i j) = some (.fptr z xs i (j + 3)) := fun z xs i j => fd_of (ty := 28) (by kernel_rfl) sz28 (by decide) _
theorem fp35_4 : ∀ id ver i j, fieldAddrD Try.prog 35 4 (.ptr id ver i j) = some (.ptr id ver i (j + 4)) := fun id ver i j => fd_of (ty := 29) (by kernel_rfl) sz29 (by decide) _
theorem fq35_4 : ∀ z xs i j, fieldAddrD Try.prog 35 4 (.fptr z xs i j) = some (.fptr z xs i (j + 4)) := fun z xs i j => fd_of (ty := 29) (by kernel_rfl) sz29 (by decide) _
theorem fp35_5 : ∀ id ver i j, fieldAddrD Try.prog 35 5 (.ptr id ver i j) = some (.ptr id ver i (j + 5)) := fun id ver i j => fd_of (ty := 3) (by kernel_rfl) sz3 (by decide) _
theorem fq35_5 : ∀ z xs i j, fieldAddrD Try.prog 35 5 (.fptr z xs i j) = some (.fptr z xs i (j + 5)) := fun z xs i j => fd_of (ty := 3) (by kernel_rfl) sz3 (by decide) _
theorem fp35_6 : ∀ id ver i j, fieldAddrD Try.prog 35 6 (.ptr id ver i j) = some (.ptr id ver i (j + 6)) := fun id ver i j => fd_of (ty := 3) (by kernel_rfl) sz3 (by decide) _
theorem fq35_6 : ∀ z xs i j, fieldAddrD Try.prog 35 6 (.fptr z xs i j) = some (.fptr z xs i (j + 6)) := fun z xs i j => fd_of (ty := 3) (by kernel_rfl) sz3 (by decide) _
theorem fp35_7 : ∀ id ver i j, fieldAddrD Try.prog 35 7 (.ptr id ver i j) = some (.ptr id ver i (j + 7)) := fun id ver i j => fd_of (ty := 3) (by kernel_rfl) sz3 (by decide) _
theorem fq35_7 : ∀ z xs i j, fieldAddrD Try.prog 35 7 (.fptr z xs i j) = some (.fptr z xs i (j + 7)) := fun z xs i j => fd_of (ty := 3) (by kernel_rfl) sz3 (by decide) _
theorem fp35_8 : ∀ id ver i j, fieldAddrD Try.prog 35 8 (.ptr id ver i j) = some (.ptr id ver i (j + 8)) := fun id ver i j => fd_of (ty := 3) (by kernel_rfl) sz3 (by decide) _
theorem fq35_8 : ∀ z xs i j, fieldAddrD Try.prog 35 8 (.fptr z xs i j) = some (.fptr z xs i (j + 8)) := fun z xs i j => fd_of (ty := 3) (by kernel_rfl) sz3 (by decide) _
theorem fp35_9 : ∀ id ver i j, fieldAddrD Try.prog 35 9 (.ptr id ver i j) = some (.ptr id ver i (j + 9)) := fun id ver i j => fd_of (ty := 3) (by kernel_rfl) sz3 (by decide) _
theorem fq35_9 : ∀ z xs i j, fieldAddrD Try.prog 35 9 (.fptr z xs i j) = some (.fptr z xs i (j + 9)) := fun z xs i j => fd_of (ty := 3) (by kernel_rfl) sz3 (by decide) _
theorem fp35_10 : ∀ id ver i j, fieldAddrD Try.prog 35 10 (.ptr id ver i j) = some (.ptr id ver i (j + 10)) := fun id ver i j => fd_of (ty := 33) (by kernel_rfl) sz33 (by decide) _
theorem fq35_10 : ∀ z xs i j, fieldAddrD Try.prog 35 10 (.fptr z xs i j) = some (.fptr z xs i (j + 10)) := fun z xs i j => fd_of (ty := 33) (by kernel_rfl) sz33 (by decide) _
theorem fp35_11 : ∀ id ver i j, fieldAddrD Try.prog 35 11 (.ptr id ver i j) = some (.ptr id ver i (j + 13)) := fun id ver i j => fd_of (ty := 27) (by kernel_rfl) sz27 (by decide) _
theorem fq35_11 : ∀ z xs i j, fieldAddrD Try.prog 35 11 (.fptr z xs i j) = some (.fptr z xs i (j + 13)) := fun z xs i j => fd_of (ty := 27) (by kernel_rfl) sz27 (by decide) _
theorem fp35_12 : ∀ id ver i j, fieldAddrD Try.prog 35 12 (.ptr id ver i j) = some (.ptr id ver i (j + 15)) := fun id ver i j => fd_of (ty := 3) (by kernel_rfl) sz3 (by decide) _
theorem fq35_12 : ∀ z xs i j, fieldAddrD Try.prog 35 12 (.fptr z xs i j) = some (.fptr z xs i (j + 15)) := fun z xs i j => fd_of (ty := 3) (by kernel_rfl) sz3 (by decide) _
theorem fp62_0 : ∀ id ver i j, fieldAddrD Try.prog 62 0 (.ptr id ver i j) = some (.ptr id ver i (j + 0)) := fun id ver i j => fd_of (ty := 3) (by kernel_rfl) sz3 (by decide) _
theorem fq62_0 : ∀ z xs i j, fieldAddrD Try.prog 62 0 (.fptr z xs i j) = some (.fptr z xs i (j + 0)) := fun z xs i j => fd_of (ty := 3) (by kernel_rfl) sz3 (by decide) _
theorem fp62_1 : ∀ id ver i j, fieldAddrD Try.prog 62 1 (.ptr id ver i j) = some (.ptr id ver i (j + 1)) := fun id ver i j => fd_of (ty := 4) (by kernel_rfl) sz4 (by decide) _
theorem fq62_1 : ∀ z xs i j, fieldAddrD Try.prog 62 1 (.fptr z xs i j) = some (.fptr z xs i (j + 1)) := fun z xs i j => fd_of (ty := 4) (by kernel_rfl) sz4 (by decide) _
theorem fp62_2 : ∀ id ver i j, fieldAddrD Try.prog 62 2 (.ptr id ver i j) = some (.ptr id ver i (j + 2)) := fun id ver i j => fd_of (ty := 35) (by kernel_rfl) sz35 (by decide) _
theorem fq62_2 : ∀ z xs i j, fieldAddrD Try.prog 62 2 (.fptr z xs i j) = some (.fptr z xs i (j + 2)) := fun z xs i j => fd_of (ty := 35) (by kernel_rfl) sz35 (by decide) _
theorem bu25 : ∀ ps, buildD Try.prog 25 ps = (bldD Try.prog 25 [.snil, .snil, .int .i64 0] ps).map .agg := buildD_eq ze25 (by kernel_rfl)
theorem bc25_0 : ∀ cs v ps, bldD Try.prog 25 cs ((0, v) :: ps) = if v.cells.length = 1 ∧ 0 + 1 ≤ cs.length ∧ v.cells.all D.one = true then bldD Try.prog 25 (cs.take 0 ++ v.cells ++ cs.drop (0 + 1)) ps else none := bld_cons (ty := 22) (by kernel_rfl) sz22
theorem bc25_1 : ∀ cs v ps, bldD Try.prog 25 cs ((1, v) :: ps) = if v.cells.length = 1 ∧ 1 + 1 ≤ cs.length ∧ v.cells.all D.one = true then bldD Try.prog 25 (cs.take 1 ++ v.cells ++ cs.drop (1 + 1)) ps else none := bld_cons (ty := 23) (by kernel_rfl) sz23
theorem bc25_2 : ∀ cs v ps, bldD Try.prog 25 cs ((2, v) :: ps) = if v.cells.length = 1 ∧ 2 + 1 ≤ cs.length ∧ v.cells.all D.one = true then bldD Try.prog 25 (cs.take 2 ++ v.cells ++ cs.drop (2 + 1)) ps else none := bld_cons (ty := 3) (by kernel_rfl) sz3
theorem bu27 : ∀ ps, buildD Try.prog 27 ps = (bldD Try.prog 27 [.int .i64 0, .int .i64 0] ps).map .agg := buildD_eq ze27 (by kernel_rfl)
theorem bc27_0 : ∀ cs v ps, bldD Try.prog 27 cs ((0, v) :: ps) = if v.cells.length = 1 ∧ 0 + 1 ≤ cs.length ∧ v.cells.all D.one = true then bldD Try.prog 27 (cs.take 0 ++ v.cells ++ cs.drop (0 + 1)) ps else none := bld_cons (ty := 3) (by kernel_rfl) sz3
theorem bc27_1 : ∀ cs v ps, bldD Try.prog 27 cs ((1, v) :: ps) = if v.cells.length = 1 ∧ 1 + 1 ≤ cs.length ∧ v.cells.all D.one = true then bldD Try.prog 27 (cs.take 1 ++ v.cells ++ cs.drop (1 + 1)) ps else none := bld_cons (ty := 3) (by kernel_rfl) sz3
theorem bu35 : ∀ ps, buildD Try.prog 35 ps = (bldD Try.prog 35 [.int .i64 0, .int .i64 0, .snil, .snil, .snil, .int .i64 0, .int .i64 0, .int .i64 0, .int .i64 0, .int .i64 0, .int .i64 0, .int .i64 0, .int .i64 0, .int .i64 0, .int .i64 0, .int .i64 0] ps).map .agg := buildD_eq ze35 (by kernel_rfl)
theorem bc35_0 : ∀ cs v ps, bldD Try.prog 35 cs ((0, v) :: ps) = if v.cells.length = 1 ∧ 0 + 1 ≤ cs.length ∧ v.cells.all D.one = true then bldD Try.prog 35 (cs.take 0 ++ v.cells ++ cs.drop (0 + 1)) ps else none := bld_cons (ty := 3) (by kernel_rfl) sz3
theorem bu62 : ∀ ps, buildD Try.prog 62 ps = (bldD Try.prog 62 [.int .i64 0, .bool false, .int .i64 0, .int .i64 0, .snil, .snil, .snil, .int .i64 0, .int .i64 0, .int .i64 0, .int .i64 0, .int .i64 0, .int .i64 0, .int .i64 0, .int .i64 0, .int .i64 0, .int .i64 0, .int .i64 0] ps).map .agg := buildD_eq ze62 (by kernel_rfl)
theorem bc62_0 : ∀ cs v ps, bldD Try.prog 62 cs ((0, v) :: ps) = if v.cells.length = 1 ∧ 0 + 1 ≤ cs.length ∧ v.cells.all D.one = true then bldD Try.prog 62 (cs.take 0 ++ v.cells ++ cs.drop (0 + 1)) ps else none := bld_cons (ty := 3) (by kernel_rfl) sz3
theorem bc62_1 : ∀ cs v ps, bldD Try.prog 62 cs ((1, v) :: ps) = if v.cells.length = 1 ∧ 1 + 1 ≤ cs.length ∧ v.cells.all D.one = true then bldD Try.prog 62 (cs.take 1 ++ v.cells ++ cs.drop (1 + 1)) ps else none := bld_cons (ty := 4) (by kernel_rfl) sz4
theorem bc62_2 : ∀ cs v ps, bldD Try.prog 62 cs ((2, v) :: ps) = if v.cells.length = 16 ∧ 2 + 16 ≤ cs.length ∧ v.cells.all D.one = true then bldD Try.prog 62 (cs.take 2 ++ v.cells ++ cs.drop (2 + 16)) ps else none := bld_cons (ty := 35) (by kernel_rfl) sz35
theorem ft27 : flatT Try.prog 27 = some [1, 1] := by kernel_rfl
theorem ft31 : flatT Try.prog 31 = some [1, 1] := by kernel_rfl
theorem ft33 : flatT Try.prog 33 = some [1, 1, 1] := by kernel_rfl
theorem ft73 : flatT Try.prog 73 = some [1, 1, 1, 1, 1, 1] := by kernel_rfl
theorem dr3_15 : drawInfo Try.prog cfg (opsAt Try.f3 15) = some [] := by kernel_rfl
theorem dr4_20 : drawInfo Try.prog cfg (opsAt Try.f4 20) = some [] := by kernel_rfl
theorem dr4_21 : drawInfo Try.prog cfg (opsAt Try.f4 21) = some [] := by kernel_rfl
theorem dr4_22 : drawInfo Try.prog cfg (opsAt Try.f4 22) = some [] := by kernel_rfl
theorem dr5_3 : drawInfo Try.prog cfg (opsAt Try.f5 3) = some [(6, 3), (9, 3), (9, 7)] := by kernel_rfl
theorem dr5_13 : drawInfo Try.prog cfg (opsAt Try.f5 13) = some [] := by kernel_rfl
theorem dr5_14 : drawInfo Try.prog cfg (opsAt Try.f5 14) = some [] := by kernel_rfl
theorem dr6_10 : drawInfo Try.prog cfg (opsAt Try.f6 10) = some [] := by kernel_rfl
theorem dr6_19 : drawInfo Try.prog cfg (opsAt Try.f6 19) = some [] := by kernel_rfl
theorem dr6_20 : drawInfo Try.prog cfg (opsAt Try.f6 20) = some [] := by kernel_rfl
theorem dr6_25 : drawInfo Try.prog cfg (opsAt Try.f6 25) = some [] := by kernel_rfl
theorem dr7_15 : drawInfo Try.prog cfg (opsAt Try.f7 15) = some [] := by kernel_rfl
theorem dr8_8 : drawInfo Try.prog cfg (opsAt Try.f8 8) = some [] := by kernel_rfl
theorem dr8_10 : drawInfo Try.prog cfg (opsAt Try.f8 10) = some [(5, 4)] := by kernel_rfl
theorem dr8_15 : drawInfo Try.prog cfg (opsAt Try.f8 15) = some [] := by kernel_rfl
theorem dr8_16 : drawInfo Try.prog cfg (opsAt Try.f8 16) = some [] := by kernel_rfl
theorem dr11_14 : drawInfo Try.prog cfg (opsAt Try.f11 14) = some [] := by kernel_rfl
theorem dr12_9 : drawInfo Try.prog cfg (opsAt Try.f12 9) = some [] := by kernel_rfl
theorem dr12_12 : drawInfo Try.prog cfg (opsAt Try.f12 12) = some [(2, 5)] := by kernel_rfl
theorem dr12_13 : drawInfo Try.prog cfg (opsAt Try.f12 13) = some [(5, 7)] := by kernel_rfl
theorem dr13_8 : drawInfo Try.prog cfg (opsAt Try.f13 8) = some [] := by kernel_rfl
theorem dr13_9 : drawInfo Try.prog cfg (opsAt Try.f13 9) = some [(3, 9), (7, 9)] := by kernel_rfl
theorem dr13_13 : drawInfo Try.prog cfg (opsAt Try.f13 13) = some [(2, 6)] := by kernel_rfl
theorem dr22_6 : drawInfo Try.prog cfg (opsAt Try.f22 6) = some [(6, 12), (9, 12)] := by kernel_rfl
theorem dr23_6 : drawInfo Try.prog cfg (opsAt Try.f23 6) = some [] := by kernel_rfl
theorem dr24_6 : drawInfo Try.prog cfg (opsAt Try.f24 6) = some [] := by kernel_rfl
theorem dr30_1 : drawInfo Try.prog cfg (opsAt Try.f30 1) = some [(4, 2)] := by kernel_rfl
theorem dr34_1 : drawInfo Try.prog cfg (opsAt Try.f34 1) = some [] := by kernel_rfl
theorem dr35_1 : drawInfo Try.prog cfg (opsAt Try.f35 1) = some [] := by kernel_rfl
theorem dr36_1 : drawInfo Try.prog cfg (opsAt Try.f36 1) = some [] := by kernel_rfl
theorem dr38_6 : drawInfo Try.prog cfg (opsAt Try.f38 6) = some [] := by kernel_rfl
theorem dr39_6 : drawInfo Try.prog cfg (opsAt Try.f39 6) = some [] := by kernel_rfl
theorem dr40_6 : drawInfo Try.prog cfg (opsAt Try.f40 6) = some [] := by kernel_rfl
theorem dr52_6 : drawInfo Try.prog cfg (opsAt Try.f52 6) = some [] := by kernel_rfl
theorem dr53_6 : drawInfo Try.prog cfg (opsAt Try.f53 6) = some [] := by kernel_rfl
attribute [simp] ag3 sz3 by3 ze3 un3 ag4 sz4 by4 ze4 un4 ag5 sz5 by5 ze5 un5 ag9 sz9 by9 ze9 un9 ag22 sz22 by22 ze22 un22 el22 ag23 sz23 by23 ze23 un23 el23 ag25 sz25 by25 ze25 ag27 sz27 by27 ze27 ag28 sz28 by28 ze28 un28 el28 ag29 sz29 by29 ze29 un29 el29 ag31 sz31 by31 ze31 ag33 sz33 by33 ze33 ag35 sz35 by35 ze35 ag39 sz39 by39 ze39 un39 ag52 sz52 by52 ze52 un52 el52 ag57 sz57 by57 ze57 un57 el57 ag62 sz62 by62 ze62 ag64 sz64 by64 ze64 ag66 sz66 by66 ze66 ag73 sz73 by73 ze73 ag89 sz89 by89 ze89 un89 ag100 sz100 by100 ze100 un100 ag102 sz102 by102 ze102 un102 fp25_0 fq25_0 fp25_1 fq25_1 fp25_2 fq25_2 fp27_0 fq27_0 fp27_1 fq27_1 fp35_0 fq35_0 fp35_1 fq35_1 fp35_2 fq35_2 fp35_3 fq35_3 fp35_4 fq35_4 fp35_5 fq35_5 fp35_6 fq35_6 fp35_7 fq35_7 fp35_8 fq35_8 fp35_9 fq35_9 fp35_10 fq35_10 fp35_11 fq35_11 fp35_12 fq35_12 fp62_0 fq62_0 fp62_1 fq62_1 fp62_2 fq62_2 bu25 bc25_0 bc25_1 bc25_2 bu27 bc27_0 bc27_1 bu35 bc35_0 bu62 bc62_0 bc62_1 bc62_2 ft27 ft31 ft33 ft73 sh3 sh4 sh5 sh6 sh7 sh8 sh9 sh10 sh11 sh12 sh13 sh14 sh15 sh16 sh17 sh18 sh19 sh20 sh21 sh22 sh23 sh24 sh25 sh26 sh27 sh28 sh29 sh30 sh31 sh32 sh33 sh34 sh35 sh36 sh37 sh38 sh39 sh40 sh41 sh42 sh43 sh44 sh45 sh46 sh47 sh48 sh49 sh50 sh51 sh52 sh53 sh54 sh56 sh66 sh67
attribute [local simp] fits_agg fits_one
theorem lit22_0 (dst ty pos af g st ps) : opD Try.prog cfg R ⟨dst, .buildSlice 22 0 ps, ty, pos, af, g⟩ st = (evps st.σ ps.toList).bind (litK 18 true [] st.h) := lit_eq dst ty pos af g st ps el22 sz62 ag62 ze62 rfl (by simp) (by decide) (by decide)
theorem litn22_0 (dst ty pos af g st ps) : opD Try.prog ⟨cfg.shared, cfg.ext, true, cfg.lit⟩ R ⟨dst, .buildSlice 22 0 ps, ty, pos, af, g⟩ st = (evps st.σ ps.toList).bind (litK 18 true [] st.h) := lit_eq dst ty pos af g st ps el22 sz62 ag62 ze62 rfl (by simp) (by decide) (by decide)
theorem lit22_1 (dst ty pos af g st ps) : opD Try.prog cfg R ⟨dst, .buildSlice 22 1 ps, ty, pos, af, g⟩ st = (evps st.σ ps.toList).bind (litK 18 true [(.agg [.int .i64 0, .bool false, .int .i64 0, .int .i64 0, .snil, .snil, .snil, .int .i64 0, .int .i64 0, .int .i64 0, .int .i64 0, .int .i64 0, .int .i64 0, .int .i64 0, .int .i64 0, .int .i64 0, .int .i64 0, .int .i64 0])] st.h) := lit_eq dst ty pos af g st ps el22 sz62 ag62 ze62 rfl (by simp) (by decide) (by decide)
theorem litn22_1 (dst ty pos af g st ps) : opD Try.prog ⟨cfg.shared, cfg.ext, true, cfg.lit⟩ R ⟨dst, .buildSlice 22 1 ps, ty, pos, af, g⟩ st = (evps st.σ ps.toList).bind (litK 18 true [(.agg [.int .i64 0, .bool false, .int .i64 0, .int .i64 0, .snil, .snil, .snil, .int .i64 0, .int .i64 0, .int .i64 0, .int .i64 0, .int .i64 0, .int .i64 0, .int .i64 0, .int .i64 0, .int .i64 0, .int .i64 0, .int .i64 0])] st.h) := lit_eq dst ty pos af g st ps el22 sz62 ag62 ze62 rfl (by simp) (by decide) (by decide)
theorem lit23_0 (dst ty pos af g st ps) : opD Try.prog cfg R ⟨dst, .buildSlice 23 0 ps, ty, pos, af, g⟩ st = (evps st.σ ps.toList).bind (litK 1 false [] st.h) := lit_eq dst ty pos af g st ps el23 sz3 ag3 ze3 rfl (by simp) (by decide) (by decide)
theorem litn23_0 (dst ty pos af g st ps) : opD Try.prog ⟨cfg.shared, cfg.ext, true, cfg.lit⟩ R ⟨dst, .buildSlice 23 0 ps, ty, pos, af, g⟩ st = (evps st.σ ps.toList).bind (litK 1 false [] st.h) := lit_eq dst ty pos af g st ps el23 sz3 ag3 ze3 rfl (by simp) (by decide) (by decide)
theorem lit23_1 (dst ty pos af g st ps) : opD Try.prog cfg R ⟨dst, .buildSlice 23 1 ps, ty, pos, af, g⟩ st = (evps st.σ ps.toList).bind (litK 1 false [(.int .i64 0)] st.h) := lit_eq dst ty pos af g st ps el23 sz3 ag3 ze3 rfl (by simp) (by decide) (by decide)
theorem litn23_1 (dst ty pos af g st ps) : opD Try.prog ⟨cfg.shared, cfg.ext, true, cfg.lit⟩ R ⟨dst, .buildSlice 23 1 ps, ty, pos, af, g⟩ st = (evps st.σ ps.toList).bind (litK 1 false [(.int .i64 0)] st.h) := lit_eq dst ty pos af g st ps el23 sz3 ag3 ze3 rfl (by simp) (by decide) (by decide)
theorem lit52_0 (dst ty pos af g st ps) : opD Try.prog cfg R ⟨dst, .buildSlice 52 0 ps, ty, pos, af, g⟩ st = (evps st.σ ps.toList).bind (litK 2 true [] st.h) := lit_eq dst ty pos af g st ps el52 sz27 ag27 ze27 rfl (by simp) (by decide) (by decide)
theorem litn52_0 (dst ty pos af g st ps) : opD Try.prog ⟨cfg.shared, cfg.ext, true, cfg.lit⟩ R ⟨dst, .buildSlice 52 0 ps, ty, pos, af, g⟩ st = (evps st.σ ps.toList).bind (litK 2 true [] st.h) := lit_eq dst ty pos af g st ps el52 sz27 ag27 ze27 rfl (by simp) (by decide) (by decide)
theorem lit52_1 (dst ty pos af g st ps) : opD Try.prog cfg R ⟨dst, .buildSlice 52 1 ps, ty, pos, af, g⟩ st = (evps st.σ ps.toList).bind (litK 2 true [(.agg [.int .i64 0, .int .i64 0])] st.h) := lit_eq dst ty pos af g st ps el52 sz27 ag27 ze27 rfl (by simp) (by decide) (by decide)
theorem litn52_1 (dst ty pos af g st ps) : opD Try.prog ⟨cfg.shared, cfg.ext, true, cfg.lit⟩ R ⟨dst, .buildSlice 52 1 ps, ty, pos, af, g⟩ st = (evps st.σ ps.toList).bind (litK 2 true [(.agg [.int .i64 0, .int .i64 0])] st.h) := lit_eq dst ty pos af g st ps el52 sz27 ag27 ze27 rfl (by simp) (by decide) (by decide)
theorem lit52_2 (dst ty pos af g st ps) : opD Try.prog cfg R ⟨dst, .buildSlice 52 2 ps, ty, pos, af, g⟩ st = (evps st.σ ps.toList).bind (litK 2 true [(.agg [.int .i64 0, .int .i64 0]), (.agg [.int .i64 0, .int .i64 0])] st.h) := lit_eq dst ty pos af g st ps el52 sz27 ag27 ze27 rfl (by simp) (by decide) (by decide)
theorem litn52_2 (dst ty pos af g st ps) : opD Try.prog ⟨cfg.shared, cfg.ext, true, cfg.lit⟩ R ⟨dst, .buildSlice 52 2 ps, ty, pos, af, g⟩ st = (evps st.σ ps.toList).bind (litK 2 true [(.agg [.int .i64 0, .int .i64 0]), (.agg [.int .i64 0, .int .i64 0])] st.h) := lit_eq dst ty pos af g st ps el52 sz27 ag27 ze27 rfl (by simp) (by decide) (by decide)
theorem le9 (h ty) (s : ByteArray) : builtinD Try.prog h .len #[9] ty [.str s] = some (.int .i64 s.size, h) := by simp [builtinD, un9]
theorem le22 (h ty) (x : D) : builtinD Try.prog h .len #[22] ty [x] = (lenS x).map fun (n : Nat) => (D.int .i64 (n : Int), h) := bu_len (t := 22) rfl un22
theorem ap22 (h ty s x) : builtinD Try.prog h .append #[22, 22] ty [s, x] = (elsZ h 18 s).bind fun old => (elsZ h 18 x).bind (apK 192 18 h s old) := app_eq rfl rfl el22 un22 sz62 sz62 by62 ag62 (by simp [zeroOk]) (by decide) (by decide) h ty s x
theorem cp22 (h ty d s) : builtinD Try.prog h .copy #[22, 22] ty [d, s] = (lenS d).bind fun dl => (elsZ h 18 s).bind fun xs => cpN 18 h d (Nat.min xs.length dl) xs := copy_eq rfl el22 sz62 h ty d s
theorem ixs22 (xs tg i) : indexAddrD Try.prog 22 (.sl 18 xs tg) i = (idxD xs.length i).map fun i => .fptr 18 xs i 0 := ixsl_eq un22 sz62 xs tg i
theorem ixo22 (id ver off len i) : indexAddrD Try.prog 22 (.own 18 id ver off len) i = (idxD len i).map fun i => .ptr id ver (off + i) 0 := ixown_eq un22 sz62 id ver off len i
theorem le23 (h ty) (x : D) : builtinD Try.prog h .len #[23] ty [x] = (lenS x).map fun (n : Nat) => (D.int .i64 (n : Int), h) := bu_len (t := 23) rfl un23
theorem ap23 (h ty s x) : builtinD Try.prog h .append #[23, 23] ty [s, x] = (elsZ h 1 s).bind fun old => (elsZ h 1 x).bind (apK 8 1 h s old) := app_eq rfl rfl el23 un23 sz3 sz3 by3 ag3 (by simp [zeroOk]) (by decide) (by decide) h ty s x
theorem cp23 (h ty d s) : builtinD Try.prog h .copy #[23, 23] ty [d, s] = (lenS d).bind fun dl => (elsZ h 1 s).bind fun xs => cpN 1 h d (Nat.min xs.length dl) xs := copy_eq rfl el23 sz3 h ty d s
theorem ixs23 (xs tg i) : indexAddrD Try.prog 23 (.sl 1 xs tg) i = (idxD xs.length i).map fun i => .fptr 1 xs i 0 := ixsl_eq un23 sz3 xs tg i
theorem ixo23 (id ver off len i) : indexAddrD Try.prog 23 (.own 1 id ver off len) i = (idxD len i).map fun i => .ptr id ver (off + i) 0 := ixown_eq un23 sz3 id ver off len i
theorem le28 (h ty) (x : D) : builtinD Try.prog h .len #[28] ty [x] = (lenS x).map fun (n : Nat) => (D.int .i64 (n : Int), h) := bu_len (t := 28) rfl un28
theorem ap28 (h ty s x) : builtinD Try.prog h .append #[28, 28] ty [s, x] = (elsZ h 2 s).bind fun old => (elsZ h 2 x).bind (apK 16 2 h s old) := app_eq rfl rfl el28 un28 sz31 sz31 by31 ag31 (by simp [zeroOk]) (by decide) (by decide) h ty s x
theorem cp28 (h ty d s) : builtinD Try.prog h .copy #[28, 28] ty [d, s] = (lenS d).bind fun dl => (elsZ h 2 s).bind fun xs => cpN 2 h d (Nat.min xs.length dl) xs := copy_eq rfl el28 sz31 h ty d s
theorem ixs28 (xs tg i) : indexAddrD Try.prog 28 (.sl 2 xs tg) i = (idxD xs.length i).map fun i => .fptr 2 xs i 0 := ixsl_eq un28 sz31 xs tg i
theorem ixo28 (id ver off len i) : indexAddrD Try.prog 28 (.own 2 id ver off len) i = (idxD len i).map fun i => .ptr id ver (off + i) 0 := ixown_eq un28 sz31 id ver off len i
theorem le29 (h ty) (x : D) : builtinD Try.prog h .len #[29] ty [x] = (lenS x).map fun (n : Nat) => (D.int .i64 (n : Int), h) := bu_len (t := 29) rfl un29
theorem ap29 (h ty s x) : builtinD Try.prog h .append #[29, 29] ty [s, x] = (elsZ h 6 s).bind fun old => (elsZ h 6 x).bind (apK 48 6 h s old) := app_eq rfl rfl el29 un29 sz73 sz73 by73 ag73 (by simp [zeroOk]) (by decide) (by decide) h ty s x
theorem cp29 (h ty d s) : builtinD Try.prog h .copy #[29, 29] ty [d, s] = (lenS d).bind fun dl => (elsZ h 6 s).bind fun xs => cpN 6 h d (Nat.min xs.length dl) xs := copy_eq rfl el29 sz73 h ty d s
theorem ixs29 (xs tg i) : indexAddrD Try.prog 29 (.sl 6 xs tg) i = (idxD xs.length i).map fun i => .fptr 6 xs i 0 := ixsl_eq un29 sz73 xs tg i
theorem ixo29 (id ver off len i) : indexAddrD Try.prog 29 (.own 6 id ver off len) i = (idxD len i).map fun i => .ptr id ver (off + i) 0 := ixown_eq un29 sz73 id ver off len i
theorem le52 (h ty) (x : D) : builtinD Try.prog h .len #[52] ty [x] = (lenS x).map fun (n : Nat) => (D.int .i64 (n : Int), h) := bu_len (t := 52) rfl un52
theorem ap52 (h ty s x) : builtinD Try.prog h .append #[52, 52] ty [s, x] = (elsZ h 2 s).bind fun old => (elsZ h 2 x).bind (apK 16 2 h s old) := app_eq rfl rfl el52 un52 sz27 sz27 by27 ag27 (by simp [zeroOk]) (by decide) (by decide) h ty s x
theorem cp52 (h ty d s) : builtinD Try.prog h .copy #[52, 52] ty [d, s] = (lenS d).bind fun dl => (elsZ h 2 s).bind fun xs => cpN 2 h d (Nat.min xs.length dl) xs := copy_eq rfl el52 sz27 h ty d s
theorem ixs52 (xs tg i) : indexAddrD Try.prog 52 (.sl 2 xs tg) i = (idxD xs.length i).map fun i => .fptr 2 xs i 0 := ixsl_eq un52 sz27 xs tg i
theorem ixo52 (id ver off len i) : indexAddrD Try.prog 52 (.own 2 id ver off len) i = (idxD len i).map fun i => .ptr id ver (off + i) 0 := ixown_eq un52 sz27 id ver off len i
theorem le57 (h ty) (x : D) : builtinD Try.prog h .len #[57] ty [x] = (lenS x).map fun (n : Nat) => (D.int .i64 (n : Int), h) := bu_len (t := 57) rfl un57
theorem ap57 (h ty s x) : builtinD Try.prog h .append #[57, 57] ty [s, x] = (elsZ h 16 s).bind fun old => (elsZ h 16 x).bind (apK 176 16 h s old) := app_eq rfl rfl el57 un57 sz35 sz35 by35 ag35 (by simp [zeroOk]) (by decide) (by decide) h ty s x
theorem cp57 (h ty d s) : builtinD Try.prog h .copy #[57, 57] ty [d, s] = (lenS d).bind fun dl => (elsZ h 16 s).bind fun xs => cpN 16 h d (Nat.min xs.length dl) xs := copy_eq rfl el57 sz35 h ty d s
theorem ixs57 (xs tg i) : indexAddrD Try.prog 57 (.sl 16 xs tg) i = (idxD xs.length i).map fun i => .fptr 16 xs i 0 := ixsl_eq un57 sz35 xs tg i
theorem ixo57 (id ver off len i) : indexAddrD Try.prog 57 (.own 16 id ver off len) i = (idxD len i).map fun i => .ptr id ver (off + i) 0 := ixown_eq un57 sz35 id ver off len i
attribute [simp] lit22_0 litn22_0 lit22_1 litn22_1 lit23_0 litn23_0 lit23_1 litn23_1 lit52_0 litn52_0 lit52_1 litn52_1 lit52_2 litn52_2 le9 le22 ap22 cp22 ixs22 ixo22 le23 ap23 cp23 ixs23 ixo23 le28 ap28 cp28 ixs28 ixo28 le29 ap29 cp29 ixs29 ixo29 le52 ap52 cp52 ixs52 ixo52 le57 ap57 cp57 ixs57 ixo57
end Go.Proofs.YtopgmnjijioheaaW.Vm
