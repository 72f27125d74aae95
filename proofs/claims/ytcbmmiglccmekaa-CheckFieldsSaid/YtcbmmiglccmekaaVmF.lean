/- What the types of this program are, and which regions have their order open: for simp. Printed by facts.py. No conditions. -/
import Derived.Test.YtcbmmiglccmekaaVmSim
import Derived.Test.YtcbmmiglccmekaaProg
import Derived.KernelRfl
set_option linter.unusedVariables false
set_option linter.unusedSimpArgs false
namespace Go.Proofs.YtcbmmiglccmekaaW.Vm
open Go Go.Proofs
def cfg : Cfg := { shared := fun f => f == 24 || f == 25 || f == 28 || f == 33 || f == 39 || f == 40 || f == 43 || f == 44 || f == 45 || f == 49, ext := fun _ => none, lit := fun t n => !((t == 23 && n == 1) || (t == 30 && n == 3)) }
theorem cfg_lit (t n : Nat) : cfg.lit t n = (!((t == 23 && n == 1) || (t == 30 && n == 3))) := rfl
theorem cfg_nomark : cfg.nomark = false := rfl
noncomputable abbrev R : Run := W Try.prog cfg
theorem sh3 : cfg.shared 3 = false := by decide
theorem sh4 : cfg.shared 4 = false := by decide
theorem sh5 : cfg.shared 5 = false := by decide
theorem sh6 : cfg.shared 6 = false := by decide
theorem sh7 : cfg.shared 7 = false := by decide
theorem sh8 : cfg.shared 8 = false := by decide
theorem sh9 : cfg.shared 9 = false := by decide
theorem sh10 : cfg.shared 10 = false := by decide
theorem sh11 : cfg.shared 11 = false := by decide
theorem sh12 : cfg.shared 12 = false := by decide
theorem sh13 : cfg.shared 13 = false := by decide
theorem sh14 : cfg.shared 14 = false := by decide
theorem sh15 : cfg.shared 15 = false := by decide
theorem sh16 : cfg.shared 16 = false := by decide
theorem sh17 : cfg.shared 17 = false := by decide
theorem sh18 : cfg.shared 18 = false := by decide
theorem sh19 : cfg.shared 19 = false := by decide
theorem sh20 : cfg.shared 20 = false := by decide
theorem sh21 : cfg.shared 21 = false := by decide
theorem sh22 : cfg.shared 22 = false := by decide
theorem sh23 : cfg.shared 23 = false := by decide
theorem sh24 : cfg.shared 24 = true := by decide
theorem sh25 : cfg.shared 25 = true := by decide
theorem sh26 : cfg.shared 26 = false := by decide
theorem sh27 : cfg.shared 27 = false := by decide
theorem sh28 : cfg.shared 28 = true := by decide
theorem sh29 : cfg.shared 29 = false := by decide
theorem sh30 : cfg.shared 30 = false := by decide
theorem sh31 : cfg.shared 31 = false := by decide
theorem sh32 : cfg.shared 32 = false := by decide
theorem sh33 : cfg.shared 33 = true := by decide
theorem sh34 : cfg.shared 34 = false := by decide
theorem sh35 : cfg.shared 35 = false := by decide
theorem sh36 : cfg.shared 36 = false := by decide
theorem sh37 : cfg.shared 37 = false := by decide
theorem sh38 : cfg.shared 38 = false := by decide
theorem sh39 : cfg.shared 39 = true := by decide
theorem sh40 : cfg.shared 40 = true := by decide
theorem sh41 : cfg.shared 41 = false := by decide
theorem sh42 : cfg.shared 42 = false := by decide
theorem sh43 : cfg.shared 43 = true := by decide
theorem sh44 : cfg.shared 44 = true := by decide
theorem sh45 : cfg.shared 45 = true := by decide
theorem sh46 : cfg.shared 46 = false := by decide
theorem sh47 : cfg.shared 47 = false := by decide
theorem sh48 : cfg.shared 48 = false := by decide
theorem sh49 : cfg.shared 49 = true := by decide
theorem sh50 : cfg.shared 50 = false := by decide
theorem sh51 : cfg.shared 51 = false := by decide
theorem sh52 : cfg.shared 52 = false := by decide
theorem sh53 : cfg.shared 53 = false := by decide
theorem sh54 : cfg.shared 54 = false := by decide
theorem sh55 : cfg.shared 55 = false := by decide
theorem sh56 : cfg.shared 56 = false := by decide
theorem sh57 : cfg.shared 57 = false := by decide
theorem sh58 : cfg.shared 58 = false := by decide
theorem sh59 : cfg.shared 59 = false := by decide
theorem sh60 : cfg.shared 60 = false := by decide
theorem sh61 : cfg.shared 61 = false := by decide
theorem sh62 : cfg.shared 62 = false := by decide
theorem cfg_ext (f : Nat) : cfg.ext f = none := rfl
theorem ag3 : aggT Try.prog 3 = some false := by kernel_rfl
theorem sz3 : szT Try.prog 3 = some 1 := by kernel_rfl
theorem by3 : byT Try.prog 3 = some 8 := by kernel_rfl
theorem ze3 : zeroT Try.prog 3 = some (.int .i64 0) := by kernel_rfl
theorem un3 : Try.prog.underlying 3 = some (.int .i64) := by kernel_rfl
theorem ag4 : aggT Try.prog 4 = some false := by kernel_rfl
theorem sz4 : szT Try.prog 4 = some 1 := by kernel_rfl
theorem by4 : byT Try.prog 4 = some 1 := by kernel_rfl
theorem ze4 : zeroT Try.prog 4 = some (.bool false) := by kernel_rfl
theorem un4 : Try.prog.underlying 4 = some .bool := by kernel_rfl
theorem ag5 : aggT Try.prog 5 = some false := by kernel_rfl
theorem sz5 : szT Try.prog 5 = some 1 := by kernel_rfl
theorem by5 : byT Try.prog 5 = some 1 := by kernel_rfl
theorem ze5 : zeroT Try.prog 5 = some (.int .u8 0) := by kernel_rfl
theorem un5 : Try.prog.underlying 5 = some (.int .u8) := by kernel_rfl
theorem ag9 : aggT Try.prog 9 = some false := by kernel_rfl
theorem sz9 : szT Try.prog 9 = some 1 := by kernel_rfl
theorem by9 : byT Try.prog 9 = some 16 := by kernel_rfl
theorem ze9 : zeroT Try.prog 9 = some (.str ByteArray.empty) := by kernel_rfl
theorem un9 : Try.prog.underlying 9 = some .string := by kernel_rfl
theorem ag23 : aggT Try.prog 23 = some false := by kernel_rfl
theorem sz23 : szT Try.prog 23 = some 1 := by kernel_rfl
theorem by23 : byT Try.prog 23 = some 24 := by kernel_rfl
theorem ze23 : zeroT Try.prog 23 = some (.snil) := by kernel_rfl
theorem un23 : Try.prog.underlying 23 = some (.slice 34) := by kernel_rfl
theorem el23 : elemT Try.prog 23 = some 34 := by kernel_rfl
theorem ag26 : aggT Try.prog 26 = some false := by kernel_rfl
theorem sz26 : szT Try.prog 26 = some 1 := by kernel_rfl
theorem by26 : byT Try.prog 26 = some 8 := by kernel_rfl
theorem ze26 : zeroT Try.prog 26 = some (.int .i64 0) := by kernel_rfl
theorem un26 : Try.prog.underlying 26 = some (.int .i64) := by kernel_rfl
theorem ag30 : aggT Try.prog 30 = some false := by kernel_rfl
theorem sz30 : szT Try.prog 30 = some 1 := by kernel_rfl
theorem by30 : byT Try.prog 30 = some 24 := by kernel_rfl
theorem ze30 : zeroT Try.prog 30 = some (.snil) := by kernel_rfl
theorem un30 : Try.prog.underlying 30 = some (.slice 3) := by kernel_rfl
theorem el30 : elemT Try.prog 30 = some 3 := by kernel_rfl
theorem ag32 : aggT Try.prog 32 = some false := by kernel_rfl
theorem sz32 : szT Try.prog 32 = some 1 := by kernel_rfl
theorem by32 : byT Try.prog 32 = some 24 := by kernel_rfl
theorem ze32 : zeroT Try.prog 32 = some (.snil) := by kernel_rfl
theorem un32 : Try.prog.underlying 32 = some (.slice 36) := by kernel_rfl
theorem el32 : elemT Try.prog 32 = some 36 := by kernel_rfl
theorem ag34 : aggT Try.prog 34 = some true := by kernel_rfl
theorem sz34 : szT Try.prog 34 = some 4 := by kernel_rfl
theorem by34 : byT Try.prog 34 = some 48 := by kernel_rfl
theorem ze34 : zeroT Try.prog 34 = some (.agg [.int .i64 0, .int .i64 0, .int .i64 0, .snil]) := by kernel_rfl
theorem ag36 : aggT Try.prog 36 = some true := by kernel_rfl
theorem sz36 : szT Try.prog 36 = some 3 := by kernel_rfl
theorem by36 : byT Try.prog 36 = some 24 := by kernel_rfl
theorem ze36 : zeroT Try.prog 36 = some (.agg [.int .i64 0, .int .i64 0, .int .i64 0]) := by kernel_rfl
theorem ag43 : aggT Try.prog 43 = some true := by kernel_rfl
theorem sz43 : szT Try.prog 43 = some 2 := by kernel_rfl
theorem by43 : byT Try.prog 43 = some 16 := by kernel_rfl
theorem ze43 : zeroT Try.prog 43 = some (.agg [.int .i64 0, .int .i64 0]) := by kernel_rfl
theorem ag48 : aggT Try.prog 48 = some false := by kernel_rfl
theorem sz48 : szT Try.prog 48 = some 1 := by kernel_rfl
theorem by48 : byT Try.prog 48 = some 8 := by kernel_rfl
theorem ze48 : zeroT Try.prog 48 = some (.nil) := by kernel_rfl
theorem ag51 : aggT Try.prog 51 = some false := by kernel_rfl
theorem sz51 : szT Try.prog 51 = some 1 := by kernel_rfl
theorem by51 : byT Try.prog 51 = some 24 := by kernel_rfl
theorem ze51 : zeroT Try.prog 51 = some (.snil) := by kernel_rfl
theorem un51 : Try.prog.underlying 51 = some (.slice 4) := by kernel_rfl
theorem el51 : elemT Try.prog 51 = some 4 := by kernel_rfl
theorem ag53 : aggT Try.prog 53 = some true := by kernel_rfl
theorem sz53 : szT Try.prog 53 = some 8 := by kernel_rfl
theorem by53 : byT Try.prog 53 = some 128 := by kernel_rfl
theorem ze53 : zeroT Try.prog 53 = some (.agg [.snil, .int .i64 0, .int .i64 0, .int .i64 0, .snil, .snil, .snil, .int .i64 0]) := by kernel_rfl
theorem ag73 : aggT Try.prog 73 = some false := by kernel_rfl
theorem sz73 : szT Try.prog 73 = some 1 := by kernel_rfl
theorem by73 : byT Try.prog 73 = some 24 := by kernel_rfl
theorem ze73 : zeroT Try.prog 73 = some (.snil) := by kernel_rfl
theorem un73 : Try.prog.underlying 73 = some (.slice 9) := by kernel_rfl
theorem el73 : elemT Try.prog 73 = some 9 := by kernel_rfl
theorem ag79 : aggT Try.prog 79 = some true := by kernel_rfl
theorem sz79 : szT Try.prog 79 = some 2 := by kernel_rfl
theorem by79 : byT Try.prog 79 = some 16 := by kernel_rfl
theorem ze79 : zeroT Try.prog 79 = some (.agg [.int .i64 0, .int .i64 0]) := by kernel_rfl
theorem ag83 : aggT Try.prog 83 = some false := by kernel_rfl
theorem sz83 : szT Try.prog 83 = some 1 := by kernel_rfl
theorem by83 : byT Try.prog 83 = some 8 := by kernel_rfl
theorem ze83 : zeroT Try.prog 83 = some (.int .u64 0) := by kernel_rfl
theorem un83 : Try.prog.underlying 83 = some (.int .u64) := by kernel_rfl
theorem ag88 : aggT Try.prog 88 = some false := by kernel_rfl
theorem sz88 : szT Try.prog 88 = some 1 := by kernel_rfl
theorem by88 : byT Try.prog 88 = some 4 := by kernel_rfl
theorem ze88 : zeroT Try.prog 88 = some (.int .u32 0) := by kernel_rfl
theorem un88 : Try.prog.underlying 88 = some (.int .u32) := by kernel_rfl
theorem ag91 : aggT Try.prog 91 = some false := by kernel_rfl
theorem sz91 : szT Try.prog 91 = some 1 := by kernel_rfl
theorem by91 : byT Try.prog 91 = some 8 := by kernel_rfl
theorem ze91 : zeroT Try.prog 91 = some (.int .u64 0) := by kernel_rfl
theorem un91 : Try.prog.underlying 91 = some (.int .u64) := by kernel_rfl
theorem ag95 : aggT Try.prog 95 = some true := by kernel_rfl
theorem sz95 : szT Try.prog 95 = some 4 := by kernel_rfl
theorem by95 : byT Try.prog 95 = some 40 := by kernel_rfl
theorem ze95 : zeroT Try.prog 95 = some (.agg [.str ByteArray.empty, .int .i64 0, .int .i64 0, .int .i64 0]) := by kernel_rfl
theorem ag99 : aggT Try.prog 99 = some true := by kernel_rfl
theorem sz99 : szT Try.prog 99 = some 68 := by kernel_rfl
theorem by99 : byT Try.prog 99 = some 680 := by kernel_rfl
theorem ze99 : zeroT Try.prog 99 = some (.agg [.str ByteArray.empty, .int .i64 0, .int .i64 0, .int .i64 0, .str ByteArray.empty, .int .i64 0, .int .i64 0, .int .i64 0, .str ByteArray.empty, .int .i64 0, .int .i64 0, .int .i64 0, .str ByteArray.empty, .int .i64 0, .int .i64 0, .int .i64 0, .str ByteArray.empty, .int .i64 0, .int .i64 0, .int .i64 0, .str ByteArray.empty, .int .i64 0, .int .i64 0, .int .i64 0, .str ByteArray.empty, .int .i64 0, .int .i64 0, .int .i64 0, .str ByteArray.empty, .int .i64 0, .int .i64 0, .int .i64 0, .str ByteArray.empty, .int .i64 0, .int .i64 0, .int .i64 0, .str ByteArray.empty, .int .i64 0, .int .i64 0, .int .i64 0, .str ByteArray.empty, .int .i64 0, .int .i64 0, .int .i64 0, .str ByteArray.empty, .int .i64 0, .int .i64 0, .int .i64 0, .str ByteArray.empty, .int .i64 0, .int .i64 0, .int .i64 0, .str ByteArray.empty, .int .i64 0, .int .i64 0, .int .i64 0, .str ByteArray.empty, .int .i64 0, .int .i64 0, .int .i64 0, .str ByteArray.empty, .int .i64 0, .int .i64 0, .int .i64 0, .str ByteArray.empty, .int .i64 0, .int .i64 0, .int .i64 0]) := by kernel_rfl
theorem un99 : Try.prog.underlying 99 = some (.array 17 95) := by kernel_rfl
theorem ag101 : aggT Try.prog 101 = some false := by kernel_rfl
theorem sz101 : szT Try.prog 101 = some 1 := by kernel_rfl
theorem by101 : byT Try.prog 101 = some 24 := by kernel_rfl
theorem ze101 : zeroT Try.prog 101 = some (.snil) := by kernel_rfl
theorem un101 : Try.prog.underlying 101 = some (.slice 5) := by kernel_rfl
theorem el101 : elemT Try.prog 101 = some 5 := by kernel_rfl
theorem fp34_0 : ∀ id ver i j, fieldAddrD Try.prog 34 0 (.ptr id ver i j) = some (.ptr id ver i (j + 0)) := fun id ver i j => fd_of (ty := 3) (by kernel_rfl) sz3 (by decide) _
theorem fq34_0 : ∀ z xs i j, fieldAddrD Try.prog 34 0 (.fptr z xs i j) = some (.fptr z xs i (j + 0)) := fun z xs i j => fd_of (ty := 3) (by kernel_rfl) sz3 (by decide) _
theorem fp34_1 : ∀ id ver i j, fieldAddrD Try.prog 34 1 (.ptr id ver i j) = some (.ptr id ver i (j + 1)) := fun id ver i j => fd_of (ty := 3) (by kernel_rfl) sz3 (by decide) _
theorem fq34_1 : ∀ z xs i j, fieldAddrD Try.prog 34 1 (.fptr z xs i j) = some (.fptr z xs i (j + 1)) := fun z xs i j => fd_of (ty := 3) (by kernel_rfl) sz3 (by decide) _
theorem fp34_2 : ∀ id ver i j, fieldAddrD Try.prog 34 2 (.ptr id ver i j) = some (.ptr id ver i (j + 2)) := fun id ver i j => fd_of (ty := 3) (by kernel_rfl) sz3 (by decide) _
theorem fq34_2 : ∀ z xs i j, fieldAddrD Try.prog 34 2 (.fptr z xs i j) = some (.fptr z xs i (j + 2)) := fun z xs i j => fd_of (ty := 3) (by kernel_rfl) sz3 (by decide) _
theorem fp34_3 : ∀ id ver i j, fieldAddrD Try.prog 34 3 (.ptr id ver i j) = some (.ptr id ver i (j + 3)) := fun id ver i j => fd_of (ty := 32) (by kernel_rfl) sz32 (by decide) _
theorem fq34_3 : ∀ z xs i j, fieldAddrD Try.prog 34 3 (.fptr z xs i j) = some (.fptr z xs i (j + 3)) := fun z xs i j => fd_of (ty := 32) (by kernel_rfl) sz32 (by decide) _
theorem fp36_0 : ∀ id ver i j, fieldAddrD Try.prog 36 0 (.ptr id ver i j) = some (.ptr id ver i (j + 0)) := fun id ver i j => fd_of (ty := 3) (by kernel_rfl) sz3 (by decide) _
theorem fq36_0 : ∀ z xs i j, fieldAddrD Try.prog 36 0 (.fptr z xs i j) = some (.fptr z xs i (j + 0)) := fun z xs i j => fd_of (ty := 3) (by kernel_rfl) sz3 (by decide) _
theorem fp36_1 : ∀ id ver i j, fieldAddrD Try.prog 36 1 (.ptr id ver i j) = some (.ptr id ver i (j + 1)) := fun id ver i j => fd_of (ty := 3) (by kernel_rfl) sz3 (by decide) _
theorem fq36_1 : ∀ z xs i j, fieldAddrD Try.prog 36 1 (.fptr z xs i j) = some (.fptr z xs i (j + 1)) := fun z xs i j => fd_of (ty := 3) (by kernel_rfl) sz3 (by decide) _
theorem fp36_2 : ∀ id ver i j, fieldAddrD Try.prog 36 2 (.ptr id ver i j) = some (.ptr id ver i (j + 2)) := fun id ver i j => fd_of (ty := 3) (by kernel_rfl) sz3 (by decide) _
theorem fq36_2 : ∀ z xs i j, fieldAddrD Try.prog 36 2 (.fptr z xs i j) = some (.fptr z xs i (j + 2)) := fun z xs i j => fd_of (ty := 3) (by kernel_rfl) sz3 (by decide) _
theorem fp43_0 : ∀ id ver i j, fieldAddrD Try.prog 43 0 (.ptr id ver i j) = some (.ptr id ver i (j + 0)) := fun id ver i j => fd_of (ty := 3) (by kernel_rfl) sz3 (by decide) _
theorem fq43_0 : ∀ z xs i j, fieldAddrD Try.prog 43 0 (.fptr z xs i j) = some (.fptr z xs i (j + 0)) := fun z xs i j => fd_of (ty := 3) (by kernel_rfl) sz3 (by decide) _
theorem fp43_1 : ∀ id ver i j, fieldAddrD Try.prog 43 1 (.ptr id ver i j) = some (.ptr id ver i (j + 1)) := fun id ver i j => fd_of (ty := 3) (by kernel_rfl) sz3 (by decide) _
theorem fq43_1 : ∀ z xs i j, fieldAddrD Try.prog 43 1 (.fptr z xs i j) = some (.fptr z xs i (j + 1)) := fun z xs i j => fd_of (ty := 3) (by kernel_rfl) sz3 (by decide) _
theorem fp53_0 : ∀ id ver i j, fieldAddrD Try.prog 53 0 (.ptr id ver i j) = some (.ptr id ver i (j + 0)) := fun id ver i j => fd_of (ty := 23) (by kernel_rfl) sz23 (by decide) _
theorem fq53_0 : ∀ z xs i j, fieldAddrD Try.prog 53 0 (.fptr z xs i j) = some (.fptr z xs i (j + 0)) := fun z xs i j => fd_of (ty := 23) (by kernel_rfl) sz23 (by decide) _
theorem fp53_1 : ∀ id ver i j, fieldAddrD Try.prog 53 1 (.ptr id ver i j) = some (.ptr id ver i (j + 1)) := fun id ver i j => fd_of (ty := 34) (by kernel_rfl) sz34 (by decide) _
theorem fq53_1 : ∀ z xs i j, fieldAddrD Try.prog 53 1 (.fptr z xs i j) = some (.fptr z xs i (j + 1)) := fun z xs i j => fd_of (ty := 34) (by kernel_rfl) sz34 (by decide) _
theorem fp53_2 : ∀ id ver i j, fieldAddrD Try.prog 53 2 (.ptr id ver i j) = some (.ptr id ver i (j + 5)) := fun id ver i j => fd_of (ty := 30) (by kernel_rfl) sz30 (by decide) _
theorem fq53_2 : ∀ z xs i j, fieldAddrD Try.prog 53 2 (.fptr z xs i j) = some (.fptr z xs i (j + 5)) := fun z xs i j => fd_of (ty := 30) (by kernel_rfl) sz30 (by decide) _
theorem fp53_3 : ∀ id ver i j, fieldAddrD Try.prog 53 3 (.ptr id ver i j) = some (.ptr id ver i (j + 6)) := fun id ver i j => fd_of (ty := 51) (by kernel_rfl) sz51 (by decide) _
theorem fq53_3 : ∀ z xs i j, fieldAddrD Try.prog 53 3 (.fptr z xs i j) = some (.fptr z xs i (j + 6)) := fun z xs i j => fd_of (ty := 51) (by kernel_rfl) sz51 (by decide) _
theorem fp53_4 : ∀ id ver i j, fieldAddrD Try.prog 53 4 (.ptr id ver i j) = some (.ptr id ver i (j + 7)) := fun id ver i j => fd_of (ty := 3) (by kernel_rfl) sz3 (by decide) _
theorem fq53_4 : ∀ z xs i j, fieldAddrD Try.prog 53 4 (.fptr z xs i j) = some (.fptr z xs i (j + 7)) := fun z xs i j => fd_of (ty := 3) (by kernel_rfl) sz3 (by decide) _
theorem fp79_0 : ∀ id ver i j, fieldAddrD Try.prog 79 0 (.ptr id ver i j) = some (.ptr id ver i (j + 0)) := fun id ver i j => fd_of (ty := 3) (by kernel_rfl) sz3 (by decide) _
theorem fq79_0 : ∀ z xs i j, fieldAddrD Try.prog 79 0 (.fptr z xs i j) = some (.fptr z xs i (j + 0)) := fun z xs i j => fd_of (ty := 3) (by kernel_rfl) sz3 (by decide) _
theorem fp79_1 : ∀ id ver i j, fieldAddrD Try.prog 79 1 (.ptr id ver i j) = some (.ptr id ver i (j + 1)) := fun id ver i j => fd_of (ty := 3) (by kernel_rfl) sz3 (by decide) _
theorem fq79_1 : ∀ z xs i j, fieldAddrD Try.prog 79 1 (.fptr z xs i j) = some (.fptr z xs i (j + 1)) := fun z xs i j => fd_of (ty := 3) (by kernel_rfl) sz3 (by decide) _
theorem fp95_2 : ∀ id ver i j, fieldAddrD Try.prog 95 2 (.ptr id ver i j) = some (.ptr id ver i (j + 2)) := fun id ver i j => fd_of (ty := 3) (by kernel_rfl) sz3 (by decide) _
theorem fq95_2 : ∀ z xs i j, fieldAddrD Try.prog 95 2 (.fptr z xs i j) = some (.fptr z xs i (j + 2)) := fun z xs i j => fd_of (ty := 3) (by kernel_rfl) sz3 (by decide) _
theorem fp95_3 : ∀ id ver i j, fieldAddrD Try.prog 95 3 (.ptr id ver i j) = some (.ptr id ver i (j + 3)) := fun id ver i j => fd_of (ty := 3) (by kernel_rfl) sz3 (by decide) _
theorem fq95_3 : ∀ z xs i j, fieldAddrD Try.prog 95 3 (.fptr z xs i j) = some (.fptr z xs i (j + 3)) := fun z xs i j => fd_of (ty := 3) (by kernel_rfl) sz3 (by decide) _
theorem bu34 : ∀ ps, buildD Try.prog 34 ps = (bldD Try.prog 34 [.int .i64 0, .int .i64 0, .int .i64 0, .snil] ps).map .agg := buildD_eq ze34 (by kernel_rfl)
theorem bc34_0 : ∀ cs v ps, bldD Try.prog 34 cs ((0, v) :: ps) = if v.cells.length = 1 ∧ 0 + 1 ≤ cs.length ∧ v.cells.all D.one = true then bldD Try.prog 34 (cs.take 0 ++ v.cells ++ cs.drop (0 + 1)) ps else none := bld_cons (ty := 3) (by kernel_rfl) sz3
theorem bc34_1 : ∀ cs v ps, bldD Try.prog 34 cs ((1, v) :: ps) = if v.cells.length = 1 ∧ 1 + 1 ≤ cs.length ∧ v.cells.all D.one = true then bldD Try.prog 34 (cs.take 1 ++ v.cells ++ cs.drop (1 + 1)) ps else none := bld_cons (ty := 3) (by kernel_rfl) sz3
theorem bc34_2 : ∀ cs v ps, bldD Try.prog 34 cs ((2, v) :: ps) = if v.cells.length = 1 ∧ 2 + 1 ≤ cs.length ∧ v.cells.all D.one = true then bldD Try.prog 34 (cs.take 2 ++ v.cells ++ cs.drop (2 + 1)) ps else none := bld_cons (ty := 3) (by kernel_rfl) sz3
theorem bu36 : ∀ ps, buildD Try.prog 36 ps = (bldD Try.prog 36 [.int .i64 0, .int .i64 0, .int .i64 0] ps).map .agg := buildD_eq ze36 (by kernel_rfl)
theorem bc36_0 : ∀ cs v ps, bldD Try.prog 36 cs ((0, v) :: ps) = if v.cells.length = 1 ∧ 0 + 1 ≤ cs.length ∧ v.cells.all D.one = true then bldD Try.prog 36 (cs.take 0 ++ v.cells ++ cs.drop (0 + 1)) ps else none := bld_cons (ty := 3) (by kernel_rfl) sz3
theorem bc36_1 : ∀ cs v ps, bldD Try.prog 36 cs ((1, v) :: ps) = if v.cells.length = 1 ∧ 1 + 1 ≤ cs.length ∧ v.cells.all D.one = true then bldD Try.prog 36 (cs.take 1 ++ v.cells ++ cs.drop (1 + 1)) ps else none := bld_cons (ty := 3) (by kernel_rfl) sz3
theorem bc36_2 : ∀ cs v ps, bldD Try.prog 36 cs ((2, v) :: ps) = if v.cells.length = 1 ∧ 2 + 1 ≤ cs.length ∧ v.cells.all D.one = true then bldD Try.prog 36 (cs.take 2 ++ v.cells ++ cs.drop (2 + 1)) ps else none := bld_cons (ty := 3) (by kernel_rfl) sz3
theorem bu53 : ∀ ps, buildD Try.prog 53 ps = (bldD Try.prog 53 [.snil, .int .i64 0, .int .i64 0, .int .i64 0, .snil, .snil, .snil, .int .i64 0] ps).map .agg := buildD_eq ze53 (by kernel_rfl)
theorem bc53_0 : ∀ cs v ps, bldD Try.prog 53 cs ((0, v) :: ps) = if v.cells.length = 1 ∧ 0 + 1 ≤ cs.length ∧ v.cells.all D.one = true then bldD Try.prog 53 (cs.take 0 ++ v.cells ++ cs.drop (0 + 1)) ps else none := bld_cons (ty := 23) (by kernel_rfl) sz23
theorem bc53_1 : ∀ cs v ps, bldD Try.prog 53 cs ((1, v) :: ps) = if v.cells.length = 4 ∧ 1 + 4 ≤ cs.length ∧ v.cells.all D.one = true then bldD Try.prog 53 (cs.take 1 ++ v.cells ++ cs.drop (1 + 4)) ps else none := bld_cons (ty := 34) (by kernel_rfl) sz34
theorem bc53_2 : ∀ cs v ps, bldD Try.prog 53 cs ((2, v) :: ps) = if v.cells.length = 1 ∧ 5 + 1 ≤ cs.length ∧ v.cells.all D.one = true then bldD Try.prog 53 (cs.take 5 ++ v.cells ++ cs.drop (5 + 1)) ps else none := bld_cons (ty := 30) (by kernel_rfl) sz30
theorem bc53_3 : ∀ cs v ps, bldD Try.prog 53 cs ((3, v) :: ps) = if v.cells.length = 1 ∧ 6 + 1 ≤ cs.length ∧ v.cells.all D.one = true then bldD Try.prog 53 (cs.take 6 ++ v.cells ++ cs.drop (6 + 1)) ps else none := bld_cons (ty := 51) (by kernel_rfl) sz51
theorem bu79 : ∀ ps, buildD Try.prog 79 ps = (bldD Try.prog 79 [.int .i64 0, .int .i64 0] ps).map .agg := buildD_eq ze79 (by kernel_rfl)
theorem bc79_0 : ∀ cs v ps, bldD Try.prog 79 cs ((0, v) :: ps) = if v.cells.length = 1 ∧ 0 + 1 ≤ cs.length ∧ v.cells.all D.one = true then bldD Try.prog 79 (cs.take 0 ++ v.cells ++ cs.drop (0 + 1)) ps else none := bld_cons (ty := 3) (by kernel_rfl) sz3
theorem bc79_1 : ∀ cs v ps, bldD Try.prog 79 cs ((1, v) :: ps) = if v.cells.length = 1 ∧ 1 + 1 ≤ cs.length ∧ v.cells.all D.one = true then bldD Try.prog 79 (cs.take 1 ++ v.cells ++ cs.drop (1 + 1)) ps else none := bld_cons (ty := 3) (by kernel_rfl) sz3
theorem bu95 : ∀ ps, buildD Try.prog 95 ps = (bldD Try.prog 95 [.str ByteArray.empty, .int .i64 0, .int .i64 0, .int .i64 0] ps).map .agg := buildD_eq ze95 (by kernel_rfl)
theorem bc95_0 : ∀ cs v ps, bldD Try.prog 95 cs ((0, v) :: ps) = if v.cells.length = 1 ∧ 0 + 1 ≤ cs.length ∧ v.cells.all D.one = true then bldD Try.prog 95 (cs.take 0 ++ v.cells ++ cs.drop (0 + 1)) ps else none := bld_cons (ty := 9) (by kernel_rfl) sz9
theorem bc95_1 : ∀ cs v ps, bldD Try.prog 95 cs ((1, v) :: ps) = if v.cells.length = 1 ∧ 1 + 1 ≤ cs.length ∧ v.cells.all D.one = true then bldD Try.prog 95 (cs.take 1 ++ v.cells ++ cs.drop (1 + 1)) ps else none := bld_cons (ty := 3) (by kernel_rfl) sz3
theorem bc95_2 : ∀ cs v ps, bldD Try.prog 95 cs ((2, v) :: ps) = if v.cells.length = 1 ∧ 2 + 1 ≤ cs.length ∧ v.cells.all D.one = true then bldD Try.prog 95 (cs.take 2 ++ v.cells ++ cs.drop (2 + 1)) ps else none := bld_cons (ty := 3) (by kernel_rfl) sz3
theorem bc95_3 : ∀ cs v ps, bldD Try.prog 95 cs ((3, v) :: ps) = if v.cells.length = 1 ∧ 3 + 1 ≤ cs.length ∧ v.cells.all D.one = true then bldD Try.prog 95 (cs.take 3 ++ v.cells ++ cs.drop (3 + 1)) ps else none := bld_cons (ty := 3) (by kernel_rfl) sz3
theorem dr4_17 : drawInfo Try.prog cfg (opsAt Try.f4 17) = some [] := by kernel_rfl
theorem dr4_18 : drawInfo Try.prog cfg (opsAt Try.f4 18) = some [] := by kernel_rfl
theorem dr11_9 : drawInfo Try.prog cfg (opsAt Try.f11 9) = some [] := by kernel_rfl
theorem dr13_6 : drawInfo Try.prog cfg (opsAt Try.f13 6) = some [] := by kernel_rfl
theorem dr20_6 : drawInfo Try.prog cfg (opsAt Try.f20 6) = some [] := by kernel_rfl
theorem dr24_2 : drawInfo Try.prog cfg (opsAt Try.f24 2) = some [(1, 6), (8, 6)] := by kernel_rfl
theorem dr25_1 : drawInfo Try.prog cfg (opsAt Try.f25 1) = some [] := by kernel_rfl
theorem dr27_6 : drawInfo Try.prog cfg (opsAt Try.f27 6) = some [] := by kernel_rfl
theorem dr29_11 : drawInfo Try.prog cfg (opsAt Try.f29 11) = some [] := by kernel_rfl
theorem dr29_18 : drawInfo Try.prog cfg (opsAt Try.f29 18) = some [] := by kernel_rfl
theorem dr39_9 : drawInfo Try.prog cfg (opsAt Try.f39 9) = some [] := by kernel_rfl
theorem dr40_11 : drawInfo Try.prog cfg (opsAt Try.f40 11) = some [] := by kernel_rfl
theorem dr40_15 : drawInfo Try.prog cfg (opsAt Try.f40 15) = some [] := by kernel_rfl
theorem dr44_3 : drawInfo Try.prog cfg (opsAt Try.f44 3) = some [] := by kernel_rfl
theorem dr49_12 : drawInfo Try.prog cfg (opsAt Try.f49 12) = some [] := by kernel_rfl
theorem dr49_16 : drawInfo Try.prog cfg (opsAt Try.f49 16) = some [] := by kernel_rfl
theorem dr51_4 : drawInfo Try.prog cfg (opsAt Try.f51 4) = some [(1, 2)] := by kernel_rfl
theorem dr51_12 : drawInfo Try.prog cfg (opsAt Try.f51 12) = some [(1, 2)] := by kernel_rfl
theorem dr54_2 : drawInfo Try.prog cfg (opsAt Try.f54 2) = some [] := by kernel_rfl
attribute [simp] ag3 sz3 by3 ze3 un3 ag4 sz4 by4 ze4 un4 ag5 sz5 by5 ze5 un5 ag9 sz9 by9 ze9 un9 ag23 sz23 by23 ze23 un23 el23 ag26 sz26 by26 ze26 un26 ag30 sz30 by30 ze30 un30 el30 ag32 sz32 by32 ze32 un32 el32 ag34 sz34 by34 ze34 ag36 sz36 by36 ze36 ag43 sz43 by43 ze43 ag48 sz48 by48 ze48 ag51 sz51 by51 ze51 un51 el51 ag53 sz53 by53 ze53 ag73 sz73 by73 ze73 un73 el73 ag79 sz79 by79 ze79 ag83 sz83 by83 ze83 un83 ag88 sz88 by88 ze88 un88 ag91 sz91 by91 ze91 un91 ag95 sz95 by95 ze95 ag99 sz99 by99 ze99 un99 ag101 sz101 by101 ze101 un101 el101 fp34_0 fq34_0 fp34_1 fq34_1 fp34_2 fq34_2 fp34_3 fq34_3 fp36_0 fq36_0 fp36_1 fq36_1 fp36_2 fq36_2 fp43_0 fq43_0 fp43_1 fq43_1 fp53_0 fq53_0 fp53_1 fq53_1 fp53_2 fq53_2 fp53_3 fq53_3 fp53_4 fq53_4 fp79_0 fq79_0 fp79_1 fq79_1 fp95_2 fq95_2 fp95_3 fq95_3 bu34 bc34_0 bc34_1 bc34_2 bu36 bc36_0 bc36_1 bc36_2 bu53 bc53_0 bc53_1 bc53_2 bc53_3 bu79 bc79_0 bc79_1 bu95 bc95_0 bc95_1 bc95_2 bc95_3 sh3 sh4 sh5 sh6 sh7 sh8 sh9 sh10 sh11 sh12 sh13 sh14 sh15 sh16 sh17 sh18 sh19 sh20 sh21 sh22 sh23 sh24 sh25 sh26 sh27 sh28 sh29 sh30 sh31 sh32 sh33 sh34 sh35 sh36 sh37 sh38 sh39 sh40 sh41 sh42 sh43 sh44 sh45 sh46 sh47 sh48 sh49 sh50 sh51 sh52 sh53 sh54 sh55 sh56 sh57 sh58 sh59 sh60 sh61 sh62
attribute [local simp] fits_agg fits_one
theorem lit23_0 (dst ty pos af g st ps) : opD Try.prog cfg R ⟨dst, .buildSlice 23 0 ps, ty, pos, af, g⟩ st = (evps st.σ ps.toList).bind (litK 4 true [] st.h) := lit_eq dst ty pos af g st ps el23 sz34 ag34 ze34 rfl (by simp) (by decide) (by decide)
theorem litn23_0 (dst ty pos af g st ps) : opD Try.prog ⟨cfg.shared, cfg.ext, true, cfg.lit⟩ R ⟨dst, .buildSlice 23 0 ps, ty, pos, af, g⟩ st = (evps st.σ ps.toList).bind (litK 4 true [] st.h) := lit_eq dst ty pos af g st ps el23 sz34 ag34 ze34 rfl (by simp) (by decide) (by decide)
theorem lit30_0 (dst ty pos af g st ps) : opD Try.prog cfg R ⟨dst, .buildSlice 30 0 ps, ty, pos, af, g⟩ st = (evps st.σ ps.toList).bind (litK 1 false [] st.h) := lit_eq dst ty pos af g st ps el30 sz3 ag3 ze3 rfl (by simp) (by decide) (by decide)
theorem litn30_0 (dst ty pos af g st ps) : opD Try.prog ⟨cfg.shared, cfg.ext, true, cfg.lit⟩ R ⟨dst, .buildSlice 30 0 ps, ty, pos, af, g⟩ st = (evps st.σ ps.toList).bind (litK 1 false [] st.h) := lit_eq dst ty pos af g st ps el30 sz3 ag3 ze3 rfl (by simp) (by decide) (by decide)
theorem lit30_1 (dst ty pos af g st ps) : opD Try.prog cfg R ⟨dst, .buildSlice 30 1 ps, ty, pos, af, g⟩ st = (evps st.σ ps.toList).bind (litK 1 false [(.int .i64 0)] st.h) := lit_eq dst ty pos af g st ps el30 sz3 ag3 ze3 rfl (by simp) (by decide) (by decide)
theorem litn30_1 (dst ty pos af g st ps) : opD Try.prog ⟨cfg.shared, cfg.ext, true, cfg.lit⟩ R ⟨dst, .buildSlice 30 1 ps, ty, pos, af, g⟩ st = (evps st.σ ps.toList).bind (litK 1 false [(.int .i64 0)] st.h) := lit_eq dst ty pos af g st ps el30 sz3 ag3 ze3 rfl (by simp) (by decide) (by decide)
theorem lit30_2 (dst ty pos af g st ps) : opD Try.prog cfg R ⟨dst, .buildSlice 30 2 ps, ty, pos, af, g⟩ st = (evps st.σ ps.toList).bind (litK 1 false [(.int .i64 0), (.int .i64 0)] st.h) := lit_eq dst ty pos af g st ps el30 sz3 ag3 ze3 rfl (by simp) (by decide) (by decide)
theorem litn30_2 (dst ty pos af g st ps) : opD Try.prog ⟨cfg.shared, cfg.ext, true, cfg.lit⟩ R ⟨dst, .buildSlice 30 2 ps, ty, pos, af, g⟩ st = (evps st.σ ps.toList).bind (litK 1 false [(.int .i64 0), (.int .i64 0)] st.h) := lit_eq dst ty pos af g st ps el30 sz3 ag3 ze3 rfl (by simp) (by decide) (by decide)
theorem lit32_0 (dst ty pos af g st ps) : opD Try.prog cfg R ⟨dst, .buildSlice 32 0 ps, ty, pos, af, g⟩ st = (evps st.σ ps.toList).bind (litK 3 true [] st.h) := lit_eq dst ty pos af g st ps el32 sz36 ag36 ze36 rfl (by simp) (by decide) (by decide)
theorem litn32_0 (dst ty pos af g st ps) : opD Try.prog ⟨cfg.shared, cfg.ext, true, cfg.lit⟩ R ⟨dst, .buildSlice 32 0 ps, ty, pos, af, g⟩ st = (evps st.σ ps.toList).bind (litK 3 true [] st.h) := lit_eq dst ty pos af g st ps el32 sz36 ag36 ze36 rfl (by simp) (by decide) (by decide)
theorem lit32_1 (dst ty pos af g st ps) : opD Try.prog cfg R ⟨dst, .buildSlice 32 1 ps, ty, pos, af, g⟩ st = (evps st.σ ps.toList).bind (litK 3 true [(.agg [.int .i64 0, .int .i64 0, .int .i64 0])] st.h) := lit_eq dst ty pos af g st ps el32 sz36 ag36 ze36 rfl (by simp) (by decide) (by decide)
theorem litn32_1 (dst ty pos af g st ps) : opD Try.prog ⟨cfg.shared, cfg.ext, true, cfg.lit⟩ R ⟨dst, .buildSlice 32 1 ps, ty, pos, af, g⟩ st = (evps st.σ ps.toList).bind (litK 3 true [(.agg [.int .i64 0, .int .i64 0, .int .i64 0])] st.h) := lit_eq dst ty pos af g st ps el32 sz36 ag36 ze36 rfl (by simp) (by decide) (by decide)
theorem lit73_0 (dst ty pos af g st ps) : opD Try.prog cfg R ⟨dst, .buildSlice 73 0 ps, ty, pos, af, g⟩ st = (evps st.σ ps.toList).bind (litK 1 false [] st.h) := lit_eq dst ty pos af g st ps el73 sz9 ag9 ze9 rfl (by simp) (by decide) (by decide)
theorem litn73_0 (dst ty pos af g st ps) : opD Try.prog ⟨cfg.shared, cfg.ext, true, cfg.lit⟩ R ⟨dst, .buildSlice 73 0 ps, ty, pos, af, g⟩ st = (evps st.σ ps.toList).bind (litK 1 false [] st.h) := lit_eq dst ty pos af g st ps el73 sz9 ag9 ze9 rfl (by simp) (by decide) (by decide)
theorem lit73_1 (dst ty pos af g st ps) : opD Try.prog cfg R ⟨dst, .buildSlice 73 1 ps, ty, pos, af, g⟩ st = (evps st.σ ps.toList).bind (litK 1 false [(.str ByteArray.empty)] st.h) := lit_eq dst ty pos af g st ps el73 sz9 ag9 ze9 rfl (by simp) (by decide) (by decide)
theorem litn73_1 (dst ty pos af g st ps) : opD Try.prog ⟨cfg.shared, cfg.ext, true, cfg.lit⟩ R ⟨dst, .buildSlice 73 1 ps, ty, pos, af, g⟩ st = (evps st.σ ps.toList).bind (litK 1 false [(.str ByteArray.empty)] st.h) := lit_eq dst ty pos af g st ps el73 sz9 ag9 ze9 rfl (by simp) (by decide) (by decide)
theorem lit73_17 (dst ty pos af g st ps) : opD Try.prog cfg R ⟨dst, .buildSlice 73 17 ps, ty, pos, af, g⟩ st = (evps st.σ ps.toList).bind (litK 1 false [(.str ByteArray.empty), (.str ByteArray.empty), (.str ByteArray.empty), (.str ByteArray.empty), (.str ByteArray.empty), (.str ByteArray.empty), (.str ByteArray.empty), (.str ByteArray.empty), (.str ByteArray.empty), (.str ByteArray.empty), (.str ByteArray.empty), (.str ByteArray.empty), (.str ByteArray.empty), (.str ByteArray.empty), (.str ByteArray.empty), (.str ByteArray.empty), (.str ByteArray.empty)] st.h) := lit_eq dst ty pos af g st ps el73 sz9 ag9 ze9 rfl (by simp) (by decide) (by decide)
theorem litn73_17 (dst ty pos af g st ps) : opD Try.prog ⟨cfg.shared, cfg.ext, true, cfg.lit⟩ R ⟨dst, .buildSlice 73 17 ps, ty, pos, af, g⟩ st = (evps st.σ ps.toList).bind (litK 1 false [(.str ByteArray.empty), (.str ByteArray.empty), (.str ByteArray.empty), (.str ByteArray.empty), (.str ByteArray.empty), (.str ByteArray.empty), (.str ByteArray.empty), (.str ByteArray.empty), (.str ByteArray.empty), (.str ByteArray.empty), (.str ByteArray.empty), (.str ByteArray.empty), (.str ByteArray.empty), (.str ByteArray.empty), (.str ByteArray.empty), (.str ByteArray.empty), (.str ByteArray.empty)] st.h) := lit_eq dst ty pos af g st ps el73 sz9 ag9 ze9 rfl (by simp) (by decide) (by decide)
theorem lit101_1 (dst ty pos af g st ps) : opD Try.prog cfg R ⟨dst, .buildSlice 101 1 ps, ty, pos, af, g⟩ st = (evps st.σ ps.toList).bind (litK 1 false [(.int .u8 0)] st.h) := lit_eq dst ty pos af g st ps el101 sz5 ag5 ze5 rfl (by simp) (by decide) (by decide)
theorem litn101_1 (dst ty pos af g st ps) : opD Try.prog ⟨cfg.shared, cfg.ext, true, cfg.lit⟩ R ⟨dst, .buildSlice 101 1 ps, ty, pos, af, g⟩ st = (evps st.σ ps.toList).bind (litK 1 false [(.int .u8 0)] st.h) := lit_eq dst ty pos af g st ps el101 sz5 ag5 ze5 rfl (by simp) (by decide) (by decide)
theorem le9 (h ty) (s : ByteArray) : builtinD Try.prog h .len #[9] ty [.str s] = some (.int .i64 s.size, h) := by simp [builtinD, un9]
theorem le23 (h ty) (x : D) : builtinD Try.prog h .len #[23] ty [x] = (lenS x).map fun (n : Nat) => (D.int .i64 (n : Int), h) := bu_len (t := 23) rfl un23
theorem ap23 (h ty s x) : builtinD Try.prog h .append #[23, 23] ty [s, x] = (elsZ h 4 s).bind fun old => (elsZ h 4 x).bind (apK 48 4 h s old) := app_eq rfl rfl el23 un23 sz34 sz34 by34 ag34 (by simp [zeroOk]) (by decide) (by decide) h ty s x
theorem cp23 (h ty d s) : builtinD Try.prog h .copy #[23, 23] ty [d, s] = (lenS d).bind fun dl => (elsZ h 4 s).bind fun xs => cpN 4 h d (Nat.min xs.length dl) xs := copy_eq rfl el23 sz34 h ty d s
theorem ixs23 (xs tg i) : indexAddrD Try.prog 23 (.sl 4 xs tg) i = (idxD xs.length i).map fun i => .fptr 4 xs i 0 := ixsl_eq un23 sz34 xs tg i
theorem ixo23 (id ver off len i) : indexAddrD Try.prog 23 (.own 4 id ver off len) i = (idxD len i).map fun i => .ptr id ver (off + i) 0 := ixown_eq un23 sz34 id ver off len i
theorem le30 (h ty) (x : D) : builtinD Try.prog h .len #[30] ty [x] = (lenS x).map fun (n : Nat) => (D.int .i64 (n : Int), h) := bu_len (t := 30) rfl un30
theorem ap30 (h ty s x) : builtinD Try.prog h .append #[30, 30] ty [s, x] = (elsZ h 1 s).bind fun old => (elsZ h 1 x).bind (apK 8 1 h s old) := app_eq rfl rfl el30 un30 sz3 sz3 by3 ag3 (by simp [zeroOk]) (by decide) (by decide) h ty s x
theorem cp30 (h ty d s) : builtinD Try.prog h .copy #[30, 30] ty [d, s] = (lenS d).bind fun dl => (elsZ h 1 s).bind fun xs => cpN 1 h d (Nat.min xs.length dl) xs := copy_eq rfl el30 sz3 h ty d s
theorem ixs30 (xs tg i) : indexAddrD Try.prog 30 (.sl 1 xs tg) i = (idxD xs.length i).map fun i => .fptr 1 xs i 0 := ixsl_eq un30 sz3 xs tg i
theorem ixo30 (id ver off len i) : indexAddrD Try.prog 30 (.own 1 id ver off len) i = (idxD len i).map fun i => .ptr id ver (off + i) 0 := ixown_eq un30 sz3 id ver off len i
theorem le32 (h ty) (x : D) : builtinD Try.prog h .len #[32] ty [x] = (lenS x).map fun (n : Nat) => (D.int .i64 (n : Int), h) := bu_len (t := 32) rfl un32
theorem ap32 (h ty s x) : builtinD Try.prog h .append #[32, 32] ty [s, x] = (elsZ h 3 s).bind fun old => (elsZ h 3 x).bind (apK 24 3 h s old) := app_eq rfl rfl el32 un32 sz36 sz36 by36 ag36 (by simp [zeroOk]) (by decide) (by decide) h ty s x
theorem cp32 (h ty d s) : builtinD Try.prog h .copy #[32, 32] ty [d, s] = (lenS d).bind fun dl => (elsZ h 3 s).bind fun xs => cpN 3 h d (Nat.min xs.length dl) xs := copy_eq rfl el32 sz36 h ty d s
theorem ixs32 (xs tg i) : indexAddrD Try.prog 32 (.sl 3 xs tg) i = (idxD xs.length i).map fun i => .fptr 3 xs i 0 := ixsl_eq un32 sz36 xs tg i
theorem ixo32 (id ver off len i) : indexAddrD Try.prog 32 (.own 3 id ver off len) i = (idxD len i).map fun i => .ptr id ver (off + i) 0 := ixown_eq un32 sz36 id ver off len i
theorem le51 (h ty) (x : D) : builtinD Try.prog h .len #[51] ty [x] = (lenS x).map fun (n : Nat) => (D.int .i64 (n : Int), h) := bu_len (t := 51) rfl un51
theorem ap51 (h ty s x) : builtinD Try.prog h .append #[51, 51] ty [s, x] = (elsZ h 1 s).bind fun old => (elsZ h 1 x).bind (apK 1 1 h s old) := app_eq rfl rfl el51 un51 sz4 sz4 by4 ag4 (by simp [zeroOk]) (by decide) (by decide) h ty s x
theorem cp51 (h ty d s) : builtinD Try.prog h .copy #[51, 51] ty [d, s] = (lenS d).bind fun dl => (elsZ h 1 s).bind fun xs => cpN 1 h d (Nat.min xs.length dl) xs := copy_eq rfl el51 sz4 h ty d s
theorem ixs51 (xs tg i) : indexAddrD Try.prog 51 (.sl 1 xs tg) i = (idxD xs.length i).map fun i => .fptr 1 xs i 0 := ixsl_eq un51 sz4 xs tg i
theorem ixo51 (id ver off len i) : indexAddrD Try.prog 51 (.own 1 id ver off len) i = (idxD len i).map fun i => .ptr id ver (off + i) 0 := ixown_eq un51 sz4 id ver off len i
theorem le73 (h ty) (x : D) : builtinD Try.prog h .len #[73] ty [x] = (lenS x).map fun (n : Nat) => (D.int .i64 (n : Int), h) := bu_len (t := 73) rfl un73
theorem ap73 (h ty s x) : builtinD Try.prog h .append #[73, 73] ty [s, x] = (elsZ h 1 s).bind fun old => (elsZ h 1 x).bind (apK 16 1 h s old) := app_eq rfl rfl el73 un73 sz9 sz9 by9 ag9 (by simp [zeroOk]) (by decide) (by decide) h ty s x
theorem cp73 (h ty d s) : builtinD Try.prog h .copy #[73, 73] ty [d, s] = (lenS d).bind fun dl => (elsZ h 1 s).bind fun xs => cpN 1 h d (Nat.min xs.length dl) xs := copy_eq rfl el73 sz9 h ty d s
theorem ixs73 (xs tg i) : indexAddrD Try.prog 73 (.sl 1 xs tg) i = (idxD xs.length i).map fun i => .fptr 1 xs i 0 := ixsl_eq un73 sz9 xs tg i
theorem ixo73 (id ver off len i) : indexAddrD Try.prog 73 (.own 1 id ver off len) i = (idxD len i).map fun i => .ptr id ver (off + i) 0 := ixown_eq un73 sz9 id ver off len i
theorem le99 (h ty) (x : D) : builtinD Try.prog h .len #[99] ty [x] = some (.int .i64 17, h) := by simp [builtinD, un99]
theorem le101 (h ty) (x : D) : builtinD Try.prog h .len #[101] ty [x] = (lenS x).map fun (n : Nat) => (D.int .i64 (n : Int), h) := bu_len (t := 101) rfl un101
theorem ap101 (h ty s x) : builtinD Try.prog h .append #[101, 101] ty [s, x] = (elsZ h 1 s).bind fun old => (elsZ h 1 x).bind (apK 1 1 h s old) := app_eq rfl rfl el101 un101 sz5 sz5 by5 ag5 (by simp [zeroOk]) (by decide) (by decide) h ty s x
theorem cp101 (h ty d s) : builtinD Try.prog h .copy #[101, 101] ty [d, s] = (lenS d).bind fun dl => (elsZ h 1 s).bind fun xs => cpN 1 h d (Nat.min xs.length dl) xs := copy_eq rfl el101 sz5 h ty d s
theorem ixs101 (xs tg i) : indexAddrD Try.prog 101 (.sl 1 xs tg) i = (idxD xs.length i).map fun i => .fptr 1 xs i 0 := ixsl_eq un101 sz5 xs tg i
theorem ixo101 (id ver off len i) : indexAddrD Try.prog 101 (.own 1 id ver off len) i = (idxD len i).map fun i => .ptr id ver (off + i) 0 := ixown_eq un101 sz5 id ver off len i
attribute [simp] lit23_0 litn23_0 lit30_0 litn30_0 lit30_1 litn30_1 lit30_2 litn30_2 lit32_0 litn32_0 lit32_1 litn32_1 lit73_0 litn73_0 lit73_1 litn73_1 lit73_17 litn73_17 lit101_1 litn101_1 le9 le23 ap23 cp23 ixs23 ixo23 le30 ap30 cp30 ixs30 ixo30 le32 ap32 cp32 ixs32 ixo32 le51 ap51 cp51 ixs51 ixo51 le73 ap73 cp73 ixs73 ixo73 le99 le101 ap101 cp101 ixs101 ixo101
end Go.Proofs.YtcbmmiglccmekaaW.Vm
