/- What the types of this program are, and which regions have their order open: for simp. Printed by facts.py. No conditions. -/
import Derived.Test.YtghidjgejmmcmaaVmSim
import Derived.Test.YtghidjgejmmcmaaProg
import Derived.KernelRfl
set_option linter.unusedVariables false
set_option linter.unusedSimpArgs false
namespace Go.Proofs.YtghidjgejmmcmaaW.Vm
open Go Go.Proofs
def cfg : Cfg := { shared := fun f => f == 28 || f == 29 || f == 30 || f == 31 || f == 32 || f == 33 || f == 34 || f == 35 || f == 36 || f == 37 || f == 39 || f == 56 || f == 57 || f == 59 || f == 61 || f == 70, ext := fun _ => none, lit := fun t n => !((t == 23 && n == 1) || (t == 43 && n == 3)) }
theorem cfg_lit (t n : Nat) : cfg.lit t n = (!((t == 23 && n == 1) || (t == 43 && n == 3))) := rfl
theorem cfg_nomark : cfg.nomark = false := rfl
noncomputable abbrev R : Run := W Try.prog cfg
theorem sh3 : cfg.shared 3 = false := by decide
theorem sh4 : cfg.shared 4 = false := by decide
theorem sh5 : cfg.shared 5 = false := by decide
theorem sh6 : cfg.shared 6 = false := by decide
theorem sh7 : cfg.shared 7 = false := by decide
theorem sh8 : cfg.shared 8 = false := by decide
theorem sh9 : cfg.shared 9 = false := by decide
theorem sh10 : cfg.shared 10 = false := by decide
theorem sh11 : cfg.shared 11 = false := by decide
theorem sh12 : cfg.shared 12 = false := by decide
theorem sh13 : cfg.shared 13 = false := by decide
theorem sh14 : cfg.shared 14 = false := by decide
theorem sh15 : cfg.shared 15 = false := by decide
theorem sh16 : cfg.shared 16 = false := by decide
theorem sh17 : cfg.shared 17 = false := by decide
theorem sh18 : cfg.shared 18 = false := by decide
theorem sh19 : cfg.shared 19 = false := by decide
theorem sh20 : cfg.shared 20 = false := by decide
theorem sh21 : cfg.shared 21 = false := by decide
theorem sh22 : cfg.shared 22 = false := by decide
theorem sh23 : cfg.shared 23 = false := by decide
theorem sh24 : cfg.shared 24 = false := by decide
theorem sh25 : cfg.shared 25 = false := by decide
theorem sh26 : cfg.shared 26 = false := by decide
theorem sh27 : cfg.shared 27 = false := by decide
theorem sh28 : cfg.shared 28 = true := by decide
theorem sh29 : cfg.shared 29 = true := by decide
theorem sh30 : cfg.shared 30 = true := by decide
theorem sh31 : cfg.shared 31 = true := by decide
theorem sh32 : cfg.shared 32 = true := by decide
theorem sh33 : cfg.shared 33 = true := by decide
theorem sh34 : cfg.shared 34 = true := by decide
theorem sh35 : cfg.shared 35 = true := by decide
theorem sh36 : cfg.shared 36 = true := by decide
theorem sh37 : cfg.shared 37 = true := by decide
theorem sh38 : cfg.shared 38 = false := by decide
theorem sh39 : cfg.shared 39 = true := by decide
theorem sh40 : cfg.shared 40 = false := by decide
theorem sh41 : cfg.shared 41 = false := by decide
theorem sh42 : cfg.shared 42 = false := by decide
theorem sh43 : cfg.shared 43 = false := by decide
theorem sh44 : cfg.shared 44 = false := by decide
theorem sh45 : cfg.shared 45 = false := by decide
theorem sh46 : cfg.shared 46 = false := by decide
theorem sh47 : cfg.shared 47 = false := by decide
theorem sh48 : cfg.shared 48 = false := by decide
theorem sh49 : cfg.shared 49 = false := by decide
theorem sh50 : cfg.shared 50 = false := by decide
theorem sh51 : cfg.shared 51 = false := by decide
theorem sh52 : cfg.shared 52 = false := by decide
theorem sh53 : cfg.shared 53 = false := by decide
theorem sh54 : cfg.shared 54 = false := by decide
theorem sh55 : cfg.shared 55 = false := by decide
theorem sh56 : cfg.shared 56 = true := by decide
theorem sh57 : cfg.shared 57 = true := by decide
theorem sh58 : cfg.shared 58 = false := by decide
theorem sh59 : cfg.shared 59 = true := by decide
theorem sh60 : cfg.shared 60 = false := by decide
theorem sh61 : cfg.shared 61 = true := by decide
theorem sh62 : cfg.shared 62 = false := by decide
theorem sh63 : cfg.shared 63 = false := by decide
theorem sh64 : cfg.shared 64 = false := by decide
theorem sh65 : cfg.shared 65 = false := by decide
theorem sh66 : cfg.shared 66 = false := by decide
theorem sh67 : cfg.shared 67 = false := by decide
theorem sh68 : cfg.shared 68 = false := by decide
theorem sh69 : cfg.shared 69 = false := by decide
theorem sh70 : cfg.shared 70 = true := by decide
theorem sh71 : cfg.shared 71 = false := by decide
theorem sh72 : cfg.shared 72 = false := by decide
theorem sh73 : cfg.shared 73 = false := by decide
theorem sh74 : cfg.shared 74 = false := by decide
theorem sh75 : cfg.shared 75 = false := by decide
theorem sh76 : cfg.shared 76 = false := by decide
theorem sh77 : cfg.shared 77 = false := by decide
theorem sh78 : cfg.shared 78 = false := by decide
theorem sh79 : cfg.shared 79 = false := by decide
theorem sh80 : cfg.shared 80 = false := by decide
theorem sh81 : cfg.shared 81 = false := by decide
theorem sh82 : cfg.shared 82 = false := by decide
theorem sh83 : cfg.shared 83 = false := by decide
theorem sh84 : cfg.shared 84 = false := by decide
theorem sh85 : cfg.shared 85 = false := by decide
theorem sh86 : cfg.shared 86 = false := by decide
theorem sh87 : cfg.shared 87 = false := by decide
theorem sh88 : cfg.shared 88 = false := by decide
theorem sh89 : cfg.shared 89 = false := by decide
theorem sh90 : cfg.shared 90 = false := by decide
theorem sh91 : cfg.shared 91 = false := by decide
theorem sh92 : cfg.shared 92 = false := by decide
theorem sh93 : cfg.shared 93 = false := by decide
theorem sh94 : cfg.shared 94 = false := by decide
theorem cfg_ext (f : Nat) : cfg.ext f = none := rfl
theorem ag3 : aggT Try.prog 3 = some false := by kernel_rfl
theorem sz3 : szT Try.prog 3 = some 1 := by kernel_rfl
theorem by3 : byT Try.prog 3 = some 8 := by kernel_rfl
theorem ze3 : zeroT Try.prog 3 = some (.int .i64 0) := by kernel_rfl
theorem un3 : Try.prog.underlying 3 = some (.int .i64) := by kernel_rfl
theorem ag4 : aggT Try.prog 4 = some false := by kernel_rfl
theorem sz4 : szT Try.prog 4 = some 1 := by kernel_rfl
theorem by4 : byT Try.prog 4 = some 1 := by kernel_rfl
theorem ze4 : zeroT Try.prog 4 = some (.bool false) := by kernel_rfl
theorem un4 : Try.prog.underlying 4 = some .bool := by kernel_rfl
theorem ag5 : aggT Try.prog 5 = some false := by kernel_rfl
theorem sz5 : szT Try.prog 5 = some 1 := by kernel_rfl
theorem by5 : byT Try.prog 5 = some 1 := by kernel_rfl
theorem ze5 : zeroT Try.prog 5 = some (.int .u8 0) := by kernel_rfl
theorem un5 : Try.prog.underlying 5 = some (.int .u8) := by kernel_rfl
theorem ag9 : aggT Try.prog 9 = some false := by kernel_rfl
theorem sz9 : szT Try.prog 9 = some 1 := by kernel_rfl
theorem by9 : byT Try.prog 9 = some 16 := by kernel_rfl
theorem ze9 : zeroT Try.prog 9 = some (.str ByteArray.empty) := by kernel_rfl
theorem un9 : Try.prog.underlying 9 = some .string := by kernel_rfl
theorem ag23 : aggT Try.prog 23 = some false := by kernel_rfl
theorem sz23 : szT Try.prog 23 = some 1 := by kernel_rfl
theorem by23 : byT Try.prog 23 = some 24 := by kernel_rfl
theorem ze23 : zeroT Try.prog 23 = some (.snil) := by kernel_rfl
theorem un23 : Try.prog.underlying 23 = some (.slice 31) := by kernel_rfl
theorem el23 : elemT Try.prog 23 = some 31 := by kernel_rfl
theorem ag24 : aggT Try.prog 24 = some false := by kernel_rfl
theorem sz24 : szT Try.prog 24 = some 1 := by kernel_rfl
theorem by24 : byT Try.prog 24 = some 24 := by kernel_rfl
theorem ze24 : zeroT Try.prog 24 = some (.snil) := by kernel_rfl
theorem un24 : Try.prog.underlying 24 = some (.slice 36) := by kernel_rfl
theorem el24 : elemT Try.prog 24 = some 36 := by kernel_rfl
theorem ag28 : aggT Try.prog 28 = some false := by kernel_rfl
theorem sz28 : szT Try.prog 28 = some 1 := by kernel_rfl
theorem by28 : byT Try.prog 28 = some 24 := by kernel_rfl
theorem ze28 : zeroT Try.prog 28 = some (.snil) := by kernel_rfl
theorem un28 : Try.prog.underlying 28 = some (.slice 33) := by kernel_rfl
theorem el28 : elemT Try.prog 28 = some 33 := by kernel_rfl
theorem ag29 : aggT Try.prog 29 = some false := by kernel_rfl
theorem sz29 : szT Try.prog 29 = some 1 := by kernel_rfl
theorem by29 : byT Try.prog 29 = some 24 := by kernel_rfl
theorem ze29 : zeroT Try.prog 29 = some (.snil) := by kernel_rfl
theorem un29 : Try.prog.underlying 29 = some (.slice 77) := by kernel_rfl
theorem el29 : elemT Try.prog 29 = some 77 := by kernel_rfl
theorem ag31 : aggT Try.prog 31 = some true := by kernel_rfl
theorem sz31 : szT Try.prog 31 = some 4 := by kernel_rfl
theorem by31 : byT Try.prog 31 = some 48 := by kernel_rfl
theorem ze31 : zeroT Try.prog 31 = some (.agg [.int .i64 0, .int .i64 0, .int .i64 0, .snil]) := by kernel_rfl
theorem ag33 : aggT Try.prog 33 = some true := by kernel_rfl
theorem sz33 : szT Try.prog 33 = some 2 := by kernel_rfl
theorem by33 : byT Try.prog 33 = some 16 := by kernel_rfl
theorem ze33 : zeroT Try.prog 33 = some (.agg [.int .i64 0, .int .i64 0]) := by kernel_rfl
theorem ag34 : aggT Try.prog 34 = some false := by kernel_rfl
theorem sz34 : szT Try.prog 34 = some 1 := by kernel_rfl
theorem by34 : byT Try.prog 34 = some 24 := by kernel_rfl
theorem ze34 : zeroT Try.prog 34 = some (.snil) := by kernel_rfl
theorem un34 : Try.prog.underlying 34 = some (.slice 60) := by kernel_rfl
theorem el34 : elemT Try.prog 34 = some 60 := by kernel_rfl
theorem ag36 : aggT Try.prog 36 = some true := by kernel_rfl
theorem sz36 : szT Try.prog 36 = some 3 := by kernel_rfl
theorem by36 : byT Try.prog 36 = some 24 := by kernel_rfl
theorem ze36 : zeroT Try.prog 36 = some (.agg [.int .i64 0, .int .i64 0, .int .i64 0]) := by kernel_rfl
theorem ag38 : aggT Try.prog 38 = some true := by kernel_rfl
theorem sz38 : szT Try.prog 38 = some 2 := by kernel_rfl
theorem by38 : byT Try.prog 38 = some 16 := by kernel_rfl
theorem ze38 : zeroT Try.prog 38 = some (.agg [.int .i64 0, .int .i64 0]) := by kernel_rfl
theorem ag40 : aggT Try.prog 40 = some true := by kernel_rfl
theorem sz40 : szT Try.prog 40 = some 16 := by kernel_rfl
theorem by40 : byT Try.prog 40 = some 176 := by kernel_rfl
theorem ze40 : zeroT Try.prog 40 = some (.agg [.int .i64 0, .int .i64 0, .snil, .snil, .snil, .int .i64 0, .int .i64 0, .int .i64 0, .int .i64 0, .int .i64 0, .int .i64 0, .int .i64 0, .int .i64 0, .int .i64 0, .int .i64 0, .int .i64 0]) := by kernel_rfl
theorem ag43 : aggT Try.prog 43 = some false := by kernel_rfl
theorem sz43 : szT Try.prog 43 = some 1 := by kernel_rfl
theorem by43 : byT Try.prog 43 = some 24 := by kernel_rfl
theorem ze43 : zeroT Try.prog 43 = some (.snil) := by kernel_rfl
theorem un43 : Try.prog.underlying 43 = some (.slice 3) := by kernel_rfl
theorem el43 : elemT Try.prog 43 = some 3 := by kernel_rfl
theorem ag50 : aggT Try.prog 50 = some true := by kernel_rfl
theorem sz50 : szT Try.prog 50 = some 5 := by kernel_rfl
theorem by50 : byT Try.prog 50 = some 56 := by kernel_rfl
theorem ze50 : zeroT Try.prog 50 = some (.agg [.int .i64 0, .int .i64 0, .int .i64 0, .int .i64 0, .snil]) := by kernel_rfl
theorem ag56 : aggT Try.prog 56 = some true := by kernel_rfl
theorem sz56 : szT Try.prog 56 = some 2 := by kernel_rfl
theorem by56 : byT Try.prog 56 = some 16 := by kernel_rfl
theorem ze56 : zeroT Try.prog 56 = some (.agg [.int .i64 0, .int .i64 0]) := by kernel_rfl
theorem un56 : Try.prog.underlying 56 = some (.array 2 3) := by kernel_rfl
theorem ag57 : aggT Try.prog 57 = some true := by kernel_rfl
theorem sz57 : szT Try.prog 57 = some 6 := by kernel_rfl
theorem by57 : byT Try.prog 57 = some 48 := by kernel_rfl
theorem ze57 : zeroT Try.prog 57 = some (.agg [.int .i64 0, .int .i64 0, .int .i64 0, .int .i64 0, .int .i64 0, .int .i64 0]) := by kernel_rfl
theorem un57 : Try.prog.underlying 57 = some (.array 2 36) := by kernel_rfl
theorem ag60 : aggT Try.prog 60 = some true := by kernel_rfl
theorem sz60 : szT Try.prog 60 = some 6 := by kernel_rfl
theorem by60 : byT Try.prog 60 = some 48 := by kernel_rfl
theorem ze60 : zeroT Try.prog 60 = some (.agg [.int .i64 0, .int .i64 0, .int .i64 0, .int .i64 0, .int .i64 0, .int .i64 0]) := by kernel_rfl
theorem ag66 : aggT Try.prog 66 = some false := by kernel_rfl
theorem sz66 : szT Try.prog 66 = some 1 := by kernel_rfl
theorem by66 : byT Try.prog 66 = some 8 := by kernel_rfl
theorem ze66 : zeroT Try.prog 66 = some (.int .i64 0) := by kernel_rfl
theorem un66 : Try.prog.underlying 66 = some (.int .i64) := by kernel_rfl
theorem ag74 : aggT Try.prog 74 = some false := by kernel_rfl
theorem sz74 : szT Try.prog 74 = some 1 := by kernel_rfl
theorem by74 : byT Try.prog 74 = some 8 := by kernel_rfl
theorem ze74 : zeroT Try.prog 74 = some (.nil) := by kernel_rfl
theorem ag77 : aggT Try.prog 77 = some true := by kernel_rfl
theorem sz77 : szT Try.prog 77 = some 3 := by kernel_rfl
theorem by77 : byT Try.prog 77 = some 24 := by kernel_rfl
theorem ze77 : zeroT Try.prog 77 = some (.agg [.int .i64 0, .int .i64 0, .int .i64 0]) := by kernel_rfl
theorem ag79 : aggT Try.prog 79 = some true := by kernel_rfl
theorem sz79 : szT Try.prog 79 = some 25 := by kernel_rfl
theorem by79 : byT Try.prog 79 = some 280 := by kernel_rfl
theorem ze79 : zeroT Try.prog 79 = some (.agg [.int .i64 0, .int .i64 0, .snil, .snil, .snil, .int .i64 0, .int .i64 0, .int .i64 0, .int .i64 0, .int .i64 0, .int .i64 0, .int .i64 0, .int .i64 0, .int .i64 0, .int .i64 0, .int .i64 0, .snil, .int .i64 0, .int .i64 0, .int .i64 0, .int .i64 0, .int .i64 0, .int .i64 0, .int .i64 0, .snil]) := by kernel_rfl
theorem ag98 : aggT Try.prog 98 = some false := by kernel_rfl
theorem sz98 : szT Try.prog 98 = some 1 := by kernel_rfl
theorem by98 : byT Try.prog 98 = some 24 := by kernel_rfl
theorem ze98 : zeroT Try.prog 98 = some (.snil) := by kernel_rfl
theorem un98 : Try.prog.underlying 98 = some (.slice 4) := by kernel_rfl
theorem el98 : elemT Try.prog 98 = some 4 := by kernel_rfl
theorem ag115 : aggT Try.prog 115 = some false := by kernel_rfl
theorem sz115 : szT Try.prog 115 = some 1 := by kernel_rfl
theorem by115 : byT Try.prog 115 = some 24 := by kernel_rfl
theorem ze115 : zeroT Try.prog 115 = some (.snil) := by kernel_rfl
theorem un115 : Try.prog.underlying 115 = some (.slice 9) := by kernel_rfl
theorem el115 : elemT Try.prog 115 = some 9 := by kernel_rfl
theorem ag123 : aggT Try.prog 123 = some true := by kernel_rfl
theorem sz123 : szT Try.prog 123 = some 2 := by kernel_rfl
theorem by123 : byT Try.prog 123 = some 16 := by kernel_rfl
theorem ze123 : zeroT Try.prog 123 = some (.agg [.int .i64 0, .int .i64 0]) := by kernel_rfl
theorem ag129 : aggT Try.prog 129 = some true := by kernel_rfl
theorem sz129 : szT Try.prog 129 = some 4 := by kernel_rfl
theorem by129 : byT Try.prog 129 = some 40 := by kernel_rfl
theorem ze129 : zeroT Try.prog 129 = some (.agg [.str ByteArray.empty, .int .i64 0, .int .i64 0, .int .i64 0]) := by kernel_rfl
theorem ag134 : aggT Try.prog 134 = some false := by kernel_rfl
theorem sz134 : szT Try.prog 134 = some 1 := by kernel_rfl
theorem by134 : byT Try.prog 134 = some 16 := by kernel_rfl
theorem ze134 : zeroT Try.prog 134 = some (.cpx .f64 0 0) := by kernel_rfl
theorem ag137 : aggT Try.prog 137 = some false := by kernel_rfl
theorem sz137 : szT Try.prog 137 = some 1 := by kernel_rfl
theorem by137 : byT Try.prog 137 = some 8 := by kernel_rfl
theorem ze137 : zeroT Try.prog 137 = some (.flt .f64 0) := by kernel_rfl
theorem ag140 : aggT Try.prog 140 = some true := by kernel_rfl
theorem sz140 : szT Try.prog 140 = some 68 := by kernel_rfl
theorem by140 : byT Try.prog 140 = some 680 := by kernel_rfl
theorem ze140 : zeroT Try.prog 140 = some (.agg [.str ByteArray.empty, .int .i64 0, .int .i64 0, .int .i64 0, .str ByteArray.empty, .int .i64 0, .int .i64 0, .int .i64 0, .str ByteArray.empty, .int .i64 0, .int .i64 0, .int .i64 0, .str ByteArray.empty, .int .i64 0, .int .i64 0, .int .i64 0, .str ByteArray.empty, .int .i64 0, .int .i64 0, .int .i64 0, .str ByteArray.empty, .int .i64 0, .int .i64 0, .int .i64 0, .str ByteArray.empty, .int .i64 0, .int .i64 0, .int .i64 0, .str ByteArray.empty, .int .i64 0, .int .i64 0, .int .i64 0, .str ByteArray.empty, .int .i64 0, .int .i64 0, .int .i64 0, .str ByteArray.empty, .int .i64 0, .int .i64 0, .int .i64 0, .str ByteArray.empty, .int .i64 0, .int .i64 0, .int .i64 0, .str ByteArray.empty, .int .i64 0, .int .i64 0, .int .i64 0, .str ByteArray.empty, .int .i64 0, .int .i64 0, .int .i64 0, .str ByteArray.empty, .int .i64 0, .int .i64 0, .int .i64 0, .str ByteArray.empty, .int .i64 0, .int .i64 0, .int .i64 0, .str ByteArray.empty, .int .i64 0, .int .i64 0, .int .i64 0, .str ByteArray.empty, .int .i64 0, .int .i64 0, .int .i64 0]) := by kernel_rfl
theorem un140 : Try.prog.underlying 140 = some (.array 17 129) := by kernel_rfl
theorem ag144 : aggT Try.prog 144 = some false := by kernel_rfl
theorem sz144 : szT Try.prog 144 = some 1 := by kernel_rfl
theorem by144 : byT Try.prog 144 = some 4 := by kernel_rfl
theorem ze144 : zeroT Try.prog 144 = some (.int .u32 0) := by kernel_rfl
theorem un144 : Try.prog.underlying 144 = some (.int .u32) := by kernel_rfl
theorem ag145 : aggT Try.prog 145 = some false := by kernel_rfl
theorem sz145 : szT Try.prog 145 = some 1 := by kernel_rfl
theorem by145 : byT Try.prog 145 = some 24 := by kernel_rfl
theorem ze145 : zeroT Try.prog 145 = some (.snil) := by kernel_rfl
theorem un145 : Try.prog.underlying 145 = some (.slice 5) := by kernel_rfl
theorem el145 : elemT Try.prog 145 = some 5 := by kernel_rfl
theorem fp31_0 : ∀ id ver i j, fieldAddrD Try.prog 31 0 (.ptr id ver i j) = some (.ptr id ver i (j + 0)) := fun id ver i j => fd_of (ty := 3) (by kernel_rfl) sz3 (by decide) _
theorem fq31_0 : ∀ z xs i j, fieldAddrD Try.prog 31 0 (.fptr z xs i j) = some (.fptr z xs i (j + 0)) := fun z xs i j => fd_of (ty := 3) (by kernel_rfl) sz3 (by decide) _
theorem fp31_1 : ∀ id ver i j, fieldAddrD Try.prog 31 1 (.ptr id ver i j) = some (.ptr id ver i (j + 1)) := fun id ver i j => fd_of (ty := 3) (by kernel_rfl) sz3 (by decide) _
theorem fq31_1 : ∀ z xs i j, fieldAddrD Try.prog 31 1 (.fptr z xs i j) = some (.fptr z xs i (j + 1)) := fun z xs i j => fd_of (ty := 3) (by kernel_rfl) sz3 (by decide) _
theorem fp31_2 : ∀ id ver i j, fieldAddrD Try.prog 31 2 (.ptr id ver i j) = some (.ptr id ver i (j + 2)) := fun id ver i j => fd_of (ty := 3) (by kernel_rfl) sz3 (by decide) _
theorem fq31_2 : ∀ z xs i j, fieldAddrD Try.prog 31 2 (.fptr z xs i j) = some (.fptr z xs i (j + 2)) := fun z xs i j => fd_of (ty := 3) (by kernel_rfl) sz3 (by decide) _
theorem fp31_3 : ∀ id ver i j, fieldAddrD Try.prog 31 3 (.ptr id ver i j) = some (.ptr id ver i (j + 3)) := fun id ver i j => fd_of (ty := 29) (by kernel_rfl) sz29 (by decide) _
theorem fq31_3 : ∀ z xs i j, fieldAddrD Try.prog 31 3 (.fptr z xs i j) = some (.fptr z xs i (j + 3)) := fun z xs i j => fd_of (ty := 29) (by kernel_rfl) sz29 (by decide) _
theorem fp33_0 : ∀ id ver i j, fieldAddrD Try.prog 33 0 (.ptr id ver i j) = some (.ptr id ver i (j + 0)) := fun id ver i j => fd_of (ty := 3) (by kernel_rfl) sz3 (by decide) _
theorem fq33_0 : ∀ z xs i j, fieldAddrD Try.prog 33 0 (.fptr z xs i j) = some (.fptr z xs i (j + 0)) := fun z xs i j => fd_of (ty := 3) (by kernel_rfl) sz3 (by decide) _
theorem fp33_1 : ∀ id ver i j, fieldAddrD Try.prog 33 1 (.ptr id ver i j) = some (.ptr id ver i (j + 1)) := fun id ver i j => fd_of (ty := 3) (by kernel_rfl) sz3 (by decide) _
theorem fq33_1 : ∀ z xs i j, fieldAddrD Try.prog 33 1 (.fptr z xs i j) = some (.fptr z xs i (j + 1)) := fun z xs i j => fd_of (ty := 3) (by kernel_rfl) sz3 (by decide) _
theorem fp36_0 : ∀ id ver i j, fieldAddrD Try.prog 36 0 (.ptr id ver i j) = some (.ptr id ver i (j + 0)) := fun id ver i j => fd_of (ty := 3) (by kernel_rfl) sz3 (by decide) _
theorem fq36_0 : ∀ z xs i j, fieldAddrD Try.prog 36 0 (.fptr z xs i j) = some (.fptr z xs i (j + 0)) := fun z xs i j => fd_of (ty := 3) (by kernel_rfl) sz3 (by decide) _
theorem fp36_1 : ∀ id ver i j, fieldAddrD Try.prog 36 1 (.ptr id ver i j) = some (.ptr id ver i (j + 1)) := fun id ver i j => fd_of (ty := 33) (by kernel_rfl) sz33 (by decide) _
theorem fq36_1 : ∀ z xs i j, fieldAddrD Try.prog 36 1 (.fptr z xs i j) = some (.fptr z xs i (j + 1)) := fun z xs i j => fd_of (ty := 33) (by kernel_rfl) sz33 (by decide) _
theorem fp40_0 : ∀ id ver i j, fieldAddrD Try.prog 40 0 (.ptr id ver i j) = some (.ptr id ver i (j + 0)) := fun id ver i j => fd_of (ty := 3) (by kernel_rfl) sz3 (by decide) _
theorem fq40_0 : ∀ z xs i j, fieldAddrD Try.prog 40 0 (.fptr z xs i j) = some (.fptr z xs i (j + 0)) := fun z xs i j => fd_of (ty := 3) (by kernel_rfl) sz3 (by decide) _
theorem fp40_1 : ∀ id ver i j, fieldAddrD Try.prog 40 1 (.ptr id ver i j) = some (.ptr id ver i (j + 1)) := fun id ver i j => fd_of (ty := 3) (by kernel_rfl) sz3 (by decide) _
theorem fq40_1 : ∀ z xs i j, fieldAddrD Try.prog 40 1 (.fptr z xs i j) = some (.fptr z xs i (j + 1)) := fun z xs i j => fd_of (ty := 3) (by kernel_rfl) sz3 (by decide) _
theorem fp40_2 : ∀ id ver i j, fieldAddrD Try.prog 40 2 (.ptr id ver i j) = some (.ptr id ver i (j + 2)) := fun id ver i j => fd_of (ty := 28) (by kernel_rfl) sz28 (by decide) _
theorem fq40_2 : ∀ z xs i j, fieldAddrD Try.prog 40 2 (.fptr z xs i j) = some (.fptr z xs i (j + 2)) := fun z xs i j => fd_of (ty := 28) (by kernel_rfl) sz28 (by decide) _
theorem fp40_3 : ∀ id ver i j, fieldAddrD Try.prog 40 3 (.ptr id ver i j) = some (.ptr id ver i (j + 3)) := fun id ver i j => fd_of (ty := 28) (by kernel_rfl) sz28 (by decide) _
theorem fq40_3 : ∀ z xs i j, fieldAddrD Try.prog 40 3 (.fptr z xs i j) = some (.fptr z xs i (j + 3)) := fun z xs i j => fd_of (ty := 28) (by kernel_rfl) sz28 (by decide) _
theorem fp40_4 : ∀ id ver i j, fieldAddrD Try.prog 40 4 (.ptr id ver i j) = some (.ptr id ver i (j + 4)) := fun id ver i j => fd_of (ty := 34) (by kernel_rfl) sz34 (by decide) _
theorem fq40_4 : ∀ z xs i j, fieldAddrD Try.prog 40 4 (.fptr z xs i j) = some (.fptr z xs i (j + 4)) := fun z xs i j => fd_of (ty := 34) (by kernel_rfl) sz34 (by decide) _
theorem fp40_5 : ∀ id ver i j, fieldAddrD Try.prog 40 5 (.ptr id ver i j) = some (.ptr id ver i (j + 5)) := fun id ver i j => fd_of (ty := 3) (by kernel_rfl) sz3 (by decide) _
theorem fq40_5 : ∀ z xs i j, fieldAddrD Try.prog 40 5 (.fptr z xs i j) = some (.fptr z xs i (j + 5)) := fun z xs i j => fd_of (ty := 3) (by kernel_rfl) sz3 (by decide) _
theorem fp40_6 : ∀ id ver i j, fieldAddrD Try.prog 40 6 (.ptr id ver i j) = some (.ptr id ver i (j + 6)) := fun id ver i j => fd_of (ty := 3) (by kernel_rfl) sz3 (by decide) _
theorem fq40_6 : ∀ z xs i j, fieldAddrD Try.prog 40 6 (.fptr z xs i j) = some (.fptr z xs i (j + 6)) := fun z xs i j => fd_of (ty := 3) (by kernel_rfl) sz3 (by decide) _
theorem fp40_7 : ∀ id ver i j, fieldAddrD Try.prog 40 7 (.ptr id ver i j) = some (.ptr id ver i (j + 7)) := fun id ver i j => fd_of (ty := 3) (by kernel_rfl) sz3 (by decide) _
theorem fq40_7 : ∀ z xs i j, fieldAddrD Try.prog 40 7 (.fptr z xs i j) = some (.fptr z xs i (j + 7)) := fun z xs i j => fd_of (ty := 3) (by kernel_rfl) sz3 (by decide) _
theorem fp40_8 : ∀ id ver i j, fieldAddrD Try.prog 40 8 (.ptr id ver i j) = some (.ptr id ver i (j + 8)) := fun id ver i j => fd_of (ty := 3) (by kernel_rfl) sz3 (by decide) _
theorem fq40_8 : ∀ z xs i j, fieldAddrD Try.prog 40 8 (.fptr z xs i j) = some (.fptr z xs i (j + 8)) := fun z xs i j => fd_of (ty := 3) (by kernel_rfl) sz3 (by decide) _
theorem fp40_9 : ∀ id ver i j, fieldAddrD Try.prog 40 9 (.ptr id ver i j) = some (.ptr id ver i (j + 9)) := fun id ver i j => fd_of (ty := 3) (by kernel_rfl) sz3 (by decide) _
theorem fq40_9 : ∀ z xs i j, fieldAddrD Try.prog 40 9 (.fptr z xs i j) = some (.fptr z xs i (j + 9)) := fun z xs i j => fd_of (ty := 3) (by kernel_rfl) sz3 (by decide) _
theorem fp40_10 : ∀ id ver i j, fieldAddrD Try.prog 40 10 (.ptr id ver i j) = some (.ptr id ver i (j + 10)) := fun id ver i j => fd_of (ty := 36) (by kernel_rfl) sz36 (by decide) _
theorem fq40_10 : ∀ z xs i j, fieldAddrD Try.prog 40 10 (.fptr z xs i j) = some (.fptr z xs i (j + 10)) := fun z xs i j => fd_of (ty := 36) (by kernel_rfl) sz36 (by decide) _
theorem fp40_11 : ∀ id ver i j, fieldAddrD Try.prog 40 11 (.ptr id ver i j) = some (.ptr id ver i (j + 13)) := fun id ver i j => fd_of (ty := 38) (by kernel_rfl) sz38 (by decide) _
theorem fq40_11 : ∀ z xs i j, fieldAddrD Try.prog 40 11 (.fptr z xs i j) = some (.fptr z xs i (j + 13)) := fun z xs i j => fd_of (ty := 38) (by kernel_rfl) sz38 (by decide) _
theorem fp40_12 : ∀ id ver i j, fieldAddrD Try.prog 40 12 (.ptr id ver i j) = some (.ptr id ver i (j + 15)) := fun id ver i j => fd_of (ty := 3) (by kernel_rfl) sz3 (by decide) _
theorem fq40_12 : ∀ z xs i j, fieldAddrD Try.prog 40 12 (.fptr z xs i j) = some (.fptr z xs i (j + 15)) := fun z xs i j => fd_of (ty := 3) (by kernel_rfl) sz3 (by decide) _
theorem fp50_0 : ∀ id ver i j, fieldAddrD Try.prog 50 0 (.ptr id ver i j) = some (.ptr id ver i (j + 0)) := fun id ver i j => fd_of (ty := 3) (by kernel_rfl) sz3 (by decide) _
theorem fq50_0 : ∀ z xs i j, fieldAddrD Try.prog 50 0 (.fptr z xs i j) = some (.fptr z xs i (j + 0)) := fun z xs i j => fd_of (ty := 3) (by kernel_rfl) sz3 (by decide) _
theorem fp50_1 : ∀ id ver i j, fieldAddrD Try.prog 50 1 (.ptr id ver i j) = some (.ptr id ver i (j + 1)) := fun id ver i j => fd_of (ty := 3) (by kernel_rfl) sz3 (by decide) _
theorem fq50_1 : ∀ z xs i j, fieldAddrD Try.prog 50 1 (.fptr z xs i j) = some (.fptr z xs i (j + 1)) := fun z xs i j => fd_of (ty := 3) (by kernel_rfl) sz3 (by decide) _
theorem fp50_2 : ∀ id ver i j, fieldAddrD Try.prog 50 2 (.ptr id ver i j) = some (.ptr id ver i (j + 2)) := fun id ver i j => fd_of (ty := 3) (by kernel_rfl) sz3 (by decide) _
theorem fq50_2 : ∀ z xs i j, fieldAddrD Try.prog 50 2 (.fptr z xs i j) = some (.fptr z xs i (j + 2)) := fun z xs i j => fd_of (ty := 3) (by kernel_rfl) sz3 (by decide) _
theorem fp50_3 : ∀ id ver i j, fieldAddrD Try.prog 50 3 (.ptr id ver i j) = some (.ptr id ver i (j + 3)) := fun id ver i j => fd_of (ty := 3) (by kernel_rfl) sz3 (by decide) _
theorem fq50_3 : ∀ z xs i j, fieldAddrD Try.prog 50 3 (.fptr z xs i j) = some (.fptr z xs i (j + 3)) := fun z xs i j => fd_of (ty := 3) (by kernel_rfl) sz3 (by decide) _
theorem fp50_4 : ∀ id ver i j, fieldAddrD Try.prog 50 4 (.ptr id ver i j) = some (.ptr id ver i (j + 4)) := fun id ver i j => fd_of (ty := 28) (by kernel_rfl) sz28 (by decide) _
theorem fq50_4 : ∀ z xs i j, fieldAddrD Try.prog 50 4 (.fptr z xs i j) = some (.fptr z xs i (j + 4)) := fun z xs i j => fd_of (ty := 28) (by kernel_rfl) sz28 (by decide) _
theorem fp60_0 : ∀ id ver i j, fieldAddrD Try.prog 60 0 (.ptr id ver i j) = some (.ptr id ver i (j + 0)) := fun id ver i j => fd_of (ty := 3) (by kernel_rfl) sz3 (by decide) _
theorem fq60_0 : ∀ z xs i j, fieldAddrD Try.prog 60 0 (.fptr z xs i j) = some (.fptr z xs i (j + 0)) := fun z xs i j => fd_of (ty := 3) (by kernel_rfl) sz3 (by decide) _
theorem fp60_2 : ∀ id ver i j, fieldAddrD Try.prog 60 2 (.ptr id ver i j) = some (.ptr id ver i (j + 3)) := fun id ver i j => fd_of (ty := 36) (by kernel_rfl) sz36 (by decide) _
theorem fq60_2 : ∀ z xs i j, fieldAddrD Try.prog 60 2 (.fptr z xs i j) = some (.fptr z xs i (j + 3)) := fun z xs i j => fd_of (ty := 36) (by kernel_rfl) sz36 (by decide) _
theorem fp77_0 : ∀ id ver i j, fieldAddrD Try.prog 77 0 (.ptr id ver i j) = some (.ptr id ver i (j + 0)) := fun id ver i j => fd_of (ty := 3) (by kernel_rfl) sz3 (by decide) _
theorem fq77_0 : ∀ z xs i j, fieldAddrD Try.prog 77 0 (.fptr z xs i j) = some (.fptr z xs i (j + 0)) := fun z xs i j => fd_of (ty := 3) (by kernel_rfl) sz3 (by decide) _
theorem fp77_1 : ∀ id ver i j, fieldAddrD Try.prog 77 1 (.ptr id ver i j) = some (.ptr id ver i (j + 1)) := fun id ver i j => fd_of (ty := 3) (by kernel_rfl) sz3 (by decide) _
theorem fq77_1 : ∀ z xs i j, fieldAddrD Try.prog 77 1 (.fptr z xs i j) = some (.fptr z xs i (j + 1)) := fun z xs i j => fd_of (ty := 3) (by kernel_rfl) sz3 (by decide) _
theorem fp77_2 : ∀ id ver i j, fieldAddrD Try.prog 77 2 (.ptr id ver i j) = some (.ptr id ver i (j + 2)) := fun id ver i j => fd_of (ty := 3) (by kernel_rfl) sz3 (by decide) _
theorem fq77_2 : ∀ z xs i j, fieldAddrD Try.prog 77 2 (.fptr z xs i j) = some (.fptr z xs i (j + 2)) := fun z xs i j => fd_of (ty := 3) (by kernel_rfl) sz3 (by decide) _
theorem fp79_0 : ∀ id ver i j, fieldAddrD Try.prog 79 0 (.ptr id ver i j) = some (.ptr id ver i (j + 0)) := fun id ver i j => fd_of (ty := 40) (by kernel_rfl) sz40 (by decide) _
theorem fq79_0 : ∀ z xs i j, fieldAddrD Try.prog 79 0 (.fptr z xs i j) = some (.fptr z xs i (j + 0)) := fun z xs i j => fd_of (ty := 40) (by kernel_rfl) sz40 (by decide) _
theorem fp79_1 : ∀ id ver i j, fieldAddrD Try.prog 79 1 (.ptr id ver i j) = some (.ptr id ver i (j + 16)) := fun id ver i j => fd_of (ty := 23) (by kernel_rfl) sz23 (by decide) _
theorem fq79_1 : ∀ z xs i j, fieldAddrD Try.prog 79 1 (.fptr z xs i j) = some (.fptr z xs i (j + 16)) := fun z xs i j => fd_of (ty := 23) (by kernel_rfl) sz23 (by decide) _
theorem fp79_2 : ∀ id ver i j, fieldAddrD Try.prog 79 2 (.ptr id ver i j) = some (.ptr id ver i (j + 17)) := fun id ver i j => fd_of (ty := 77) (by kernel_rfl) sz77 (by decide) _
theorem fq79_2 : ∀ z xs i j, fieldAddrD Try.prog 79 2 (.fptr z xs i j) = some (.fptr z xs i (j + 17)) := fun z xs i j => fd_of (ty := 77) (by kernel_rfl) sz77 (by decide) _
theorem fp79_3 : ∀ id ver i j, fieldAddrD Try.prog 79 3 (.ptr id ver i j) = some (.ptr id ver i (j + 20)) := fun id ver i j => fd_of (ty := 50) (by kernel_rfl) sz50 (by decide) _
theorem fq79_3 : ∀ z xs i j, fieldAddrD Try.prog 79 3 (.fptr z xs i j) = some (.fptr z xs i (j + 20)) := fun z xs i j => fd_of (ty := 50) (by kernel_rfl) sz50 (by decide) _
theorem fp123_0 : ∀ id ver i j, fieldAddrD Try.prog 123 0 (.ptr id ver i j) = some (.ptr id ver i (j + 0)) := fun id ver i j => fd_of (ty := 3) (by kernel_rfl) sz3 (by decide) _
theorem fq123_0 : ∀ z xs i j, fieldAddrD Try.prog 123 0 (.fptr z xs i j) = some (.fptr z xs i (j + 0)) := fun z xs i j => fd_of (ty := 3) (by kernel_rfl) sz3 (by decide) _
theorem fp123_1 : ∀ id ver i j, fieldAddrD Try.prog 123 1 (.ptr id ver i j) = some (.ptr id ver i (j + 1)) := fun id ver i j => fd_of (ty := 3) (by kernel_rfl) sz3 (by decide) _
theorem fq123_1 : ∀ z xs i j, fieldAddrD Try.prog 123 1 (.fptr z xs i j) = some (.fptr z xs i (j + 1)) := fun z xs i j => fd_of (ty := 3) (by kernel_rfl) sz3 (by decide) _
theorem fp129_2 : ∀ id ver i j, fieldAddrD Try.prog 129 2 (.ptr id ver i j) = some (.ptr id ver i (j + 2)) := fun id ver i j => fd_of (ty := 3) (by kernel_rfl) sz3 (by decide) _
theorem fq129_2 : ∀ z xs i j, fieldAddrD Try.prog 129 2 (.fptr z xs i j) = some (.fptr z xs i (j + 2)) := fun z xs i j => fd_of (ty := 3) (by kernel_rfl) sz3 (by decide) _
theorem fp129_3 : ∀ id ver i j, fieldAddrD Try.prog 129 3 (.ptr id ver i j) = some (.ptr id ver i (j + 3)) := fun id ver i j => fd_of (ty := 3) (by kernel_rfl) sz3 (by decide) _
theorem fq129_3 : ∀ z xs i j, fieldAddrD Try.prog 129 3 (.fptr z xs i j) = some (.fptr z xs i (j + 3)) := fun z xs i j => fd_of (ty := 3) (by kernel_rfl) sz3 (by decide) _
theorem bu31 : ∀ ps, buildD Try.prog 31 ps = (bldD Try.prog 31 [.int .i64 0, .int .i64 0, .int .i64 0, .snil] ps).map .agg := buildD_eq ze31 (by kernel_rfl)
theorem bc31_0 : ∀ cs v ps, bldD Try.prog 31 cs ((0, v) :: ps) = if v.cells.length = 1 ∧ 0 + 1 ≤ cs.length ∧ v.cells.all D.one = true then bldD Try.prog 31 (cs.take 0 ++ v.cells ++ cs.drop (0 + 1)) ps else none := bld_cons (ty := 3) (by kernel_rfl) sz3
theorem bc31_1 : ∀ cs v ps, bldD Try.prog 31 cs ((1, v) :: ps) = if v.cells.length = 1 ∧ 1 + 1 ≤ cs.length ∧ v.cells.all D.one = true then bldD Try.prog 31 (cs.take 1 ++ v.cells ++ cs.drop (1 + 1)) ps else none := bld_cons (ty := 3) (by kernel_rfl) sz3
theorem bc31_2 : ∀ cs v ps, bldD Try.prog 31 cs ((2, v) :: ps) = if v.cells.length = 1 ∧ 2 + 1 ≤ cs.length ∧ v.cells.all D.one = true then bldD Try.prog 31 (cs.take 2 ++ v.cells ++ cs.drop (2 + 1)) ps else none := bld_cons (ty := 3) (by kernel_rfl) sz3
theorem bu33 : ∀ ps, buildD Try.prog 33 ps = (bldD Try.prog 33 [.int .i64 0, .int .i64 0] ps).map .agg := buildD_eq ze33 (by kernel_rfl)
theorem bc33_0 : ∀ cs v ps, bldD Try.prog 33 cs ((0, v) :: ps) = if v.cells.length = 1 ∧ 0 + 1 ≤ cs.length ∧ v.cells.all D.one = true then bldD Try.prog 33 (cs.take 0 ++ v.cells ++ cs.drop (0 + 1)) ps else none := bld_cons (ty := 3) (by kernel_rfl) sz3
theorem bc33_1 : ∀ cs v ps, bldD Try.prog 33 cs ((1, v) :: ps) = if v.cells.length = 1 ∧ 1 + 1 ≤ cs.length ∧ v.cells.all D.one = true then bldD Try.prog 33 (cs.take 1 ++ v.cells ++ cs.drop (1 + 1)) ps else none := bld_cons (ty := 3) (by kernel_rfl) sz3
theorem bu36 : ∀ ps, buildD Try.prog 36 ps = (bldD Try.prog 36 [.int .i64 0, .int .i64 0, .int .i64 0] ps).map .agg := buildD_eq ze36 (by kernel_rfl)
theorem bc36_0 : ∀ cs v ps, bldD Try.prog 36 cs ((0, v) :: ps) = if v.cells.length = 1 ∧ 0 + 1 ≤ cs.length ∧ v.cells.all D.one = true then bldD Try.prog 36 (cs.take 0 ++ v.cells ++ cs.drop (0 + 1)) ps else none := bld_cons (ty := 3) (by kernel_rfl) sz3
theorem bc36_1 : ∀ cs v ps, bldD Try.prog 36 cs ((1, v) :: ps) = if v.cells.length = 2 ∧ 1 + 2 ≤ cs.length ∧ v.cells.all D.one = true then bldD Try.prog 36 (cs.take 1 ++ v.cells ++ cs.drop (1 + 2)) ps else none := bld_cons (ty := 33) (by kernel_rfl) sz33
theorem bu38 : ∀ ps, buildD Try.prog 38 ps = (bldD Try.prog 38 [.int .i64 0, .int .i64 0] ps).map .agg := buildD_eq ze38 (by kernel_rfl)
theorem bc38_0 : ∀ cs v ps, bldD Try.prog 38 cs ((0, v) :: ps) = if v.cells.length = 1 ∧ 0 + 1 ≤ cs.length ∧ v.cells.all D.one = true then bldD Try.prog 38 (cs.take 0 ++ v.cells ++ cs.drop (0 + 1)) ps else none := bld_cons (ty := 3) (by kernel_rfl) sz3
theorem bu40 : ∀ ps, buildD Try.prog 40 ps = (bldD Try.prog 40 [.int .i64 0, .int .i64 0, .snil, .snil, .snil, .int .i64 0, .int .i64 0, .int .i64 0, .int .i64 0, .int .i64 0, .int .i64 0, .int .i64 0, .int .i64 0, .int .i64 0, .int .i64 0, .int .i64 0] ps).map .agg := buildD_eq ze40 (by kernel_rfl)
theorem bc40_0 : ∀ cs v ps, bldD Try.prog 40 cs ((0, v) :: ps) = if v.cells.length = 1 ∧ 0 + 1 ≤ cs.length ∧ v.cells.all D.one = true then bldD Try.prog 40 (cs.take 0 ++ v.cells ++ cs.drop (0 + 1)) ps else none := bld_cons (ty := 3) (by kernel_rfl) sz3
theorem bc40_3 : ∀ cs v ps, bldD Try.prog 40 cs ((3, v) :: ps) = if v.cells.length = 1 ∧ 3 + 1 ≤ cs.length ∧ v.cells.all D.one = true then bldD Try.prog 40 (cs.take 3 ++ v.cells ++ cs.drop (3 + 1)) ps else none := bld_cons (ty := 28) (by kernel_rfl) sz28
theorem bc40_4 : ∀ cs v ps, bldD Try.prog 40 cs ((4, v) :: ps) = if v.cells.length = 1 ∧ 4 + 1 ≤ cs.length ∧ v.cells.all D.one = true then bldD Try.prog 40 (cs.take 4 ++ v.cells ++ cs.drop (4 + 1)) ps else none := bld_cons (ty := 34) (by kernel_rfl) sz34
theorem bc40_5 : ∀ cs v ps, bldD Try.prog 40 cs ((5, v) :: ps) = if v.cells.length = 1 ∧ 5 + 1 ≤ cs.length ∧ v.cells.all D.one = true then bldD Try.prog 40 (cs.take 5 ++ v.cells ++ cs.drop (5 + 1)) ps else none := bld_cons (ty := 3) (by kernel_rfl) sz3
theorem bc40_11 : ∀ cs v ps, bldD Try.prog 40 cs ((11, v) :: ps) = if v.cells.length = 2 ∧ 13 + 2 ≤ cs.length ∧ v.cells.all D.one = true then bldD Try.prog 40 (cs.take 13 ++ v.cells ++ cs.drop (13 + 2)) ps else none := bld_cons (ty := 38) (by kernel_rfl) sz38
theorem bu50 : ∀ ps, buildD Try.prog 50 ps = (bldD Try.prog 50 [.int .i64 0, .int .i64 0, .int .i64 0, .int .i64 0, .snil] ps).map .agg := buildD_eq ze50 (by kernel_rfl)
theorem bc50_0 : ∀ cs v ps, bldD Try.prog 50 cs ((0, v) :: ps) = if v.cells.length = 1 ∧ 0 + 1 ≤ cs.length ∧ v.cells.all D.one = true then bldD Try.prog 50 (cs.take 0 ++ v.cells ++ cs.drop (0 + 1)) ps else none := bld_cons (ty := 3) (by kernel_rfl) sz3
theorem bc50_1 : ∀ cs v ps, bldD Try.prog 50 cs ((1, v) :: ps) = if v.cells.length = 1 ∧ 1 + 1 ≤ cs.length ∧ v.cells.all D.one = true then bldD Try.prog 50 (cs.take 1 ++ v.cells ++ cs.drop (1 + 1)) ps else none := bld_cons (ty := 3) (by kernel_rfl) sz3
theorem bc50_2 : ∀ cs v ps, bldD Try.prog 50 cs ((2, v) :: ps) = if v.cells.length = 1 ∧ 2 + 1 ≤ cs.length ∧ v.cells.all D.one = true then bldD Try.prog 50 (cs.take 2 ++ v.cells ++ cs.drop (2 + 1)) ps else none := bld_cons (ty := 3) (by kernel_rfl) sz3
theorem bc50_3 : ∀ cs v ps, bldD Try.prog 50 cs ((3, v) :: ps) = if v.cells.length = 1 ∧ 3 + 1 ≤ cs.length ∧ v.cells.all D.one = true then bldD Try.prog 50 (cs.take 3 ++ v.cells ++ cs.drop (3 + 1)) ps else none := bld_cons (ty := 3) (by kernel_rfl) sz3
theorem bc50_4 : ∀ cs v ps, bldD Try.prog 50 cs ((4, v) :: ps) = if v.cells.length = 1 ∧ 4 + 1 ≤ cs.length ∧ v.cells.all D.one = true then bldD Try.prog 50 (cs.take 4 ++ v.cells ++ cs.drop (4 + 1)) ps else none := bld_cons (ty := 28) (by kernel_rfl) sz28
theorem bu60 : ∀ ps, buildD Try.prog 60 ps = (bldD Try.prog 60 [.int .i64 0, .int .i64 0, .int .i64 0, .int .i64 0, .int .i64 0, .int .i64 0] ps).map .agg := buildD_eq ze60 (by kernel_rfl)
theorem bc60_0 : ∀ cs v ps, bldD Try.prog 60 cs ((0, v) :: ps) = if v.cells.length = 1 ∧ 0 + 1 ≤ cs.length ∧ v.cells.all D.one = true then bldD Try.prog 60 (cs.take 0 ++ v.cells ++ cs.drop (0 + 1)) ps else none := bld_cons (ty := 3) (by kernel_rfl) sz3
theorem bc60_1 : ∀ cs v ps, bldD Try.prog 60 cs ((1, v) :: ps) = if v.cells.length = 2 ∧ 1 + 2 ≤ cs.length ∧ v.cells.all D.one = true then bldD Try.prog 60 (cs.take 1 ++ v.cells ++ cs.drop (1 + 2)) ps else none := bld_cons (ty := 38) (by kernel_rfl) sz38
theorem bc60_2 : ∀ cs v ps, bldD Try.prog 60 cs ((2, v) :: ps) = if v.cells.length = 3 ∧ 3 + 3 ≤ cs.length ∧ v.cells.all D.one = true then bldD Try.prog 60 (cs.take 3 ++ v.cells ++ cs.drop (3 + 3)) ps else none := bld_cons (ty := 36) (by kernel_rfl) sz36
theorem bu77 : ∀ ps, buildD Try.prog 77 ps = (bldD Try.prog 77 [.int .i64 0, .int .i64 0, .int .i64 0] ps).map .agg := buildD_eq ze77 (by kernel_rfl)
theorem bc77_0 : ∀ cs v ps, bldD Try.prog 77 cs ((0, v) :: ps) = if v.cells.length = 1 ∧ 0 + 1 ≤ cs.length ∧ v.cells.all D.one = true then bldD Try.prog 77 (cs.take 0 ++ v.cells ++ cs.drop (0 + 1)) ps else none := bld_cons (ty := 3) (by kernel_rfl) sz3
theorem bc77_1 : ∀ cs v ps, bldD Try.prog 77 cs ((1, v) :: ps) = if v.cells.length = 1 ∧ 1 + 1 ≤ cs.length ∧ v.cells.all D.one = true then bldD Try.prog 77 (cs.take 1 ++ v.cells ++ cs.drop (1 + 1)) ps else none := bld_cons (ty := 3) (by kernel_rfl) sz3
theorem bc77_2 : ∀ cs v ps, bldD Try.prog 77 cs ((2, v) :: ps) = if v.cells.length = 1 ∧ 2 + 1 ≤ cs.length ∧ v.cells.all D.one = true then bldD Try.prog 77 (cs.take 2 ++ v.cells ++ cs.drop (2 + 1)) ps else none := bld_cons (ty := 3) (by kernel_rfl) sz3
theorem bu79 : ∀ ps, buildD Try.prog 79 ps = (bldD Try.prog 79 [.int .i64 0, .int .i64 0, .snil, .snil, .snil, .int .i64 0, .int .i64 0, .int .i64 0, .int .i64 0, .int .i64 0, .int .i64 0, .int .i64 0, .int .i64 0, .int .i64 0, .int .i64 0, .int .i64 0, .snil, .int .i64 0, .int .i64 0, .int .i64 0, .int .i64 0, .int .i64 0, .int .i64 0, .int .i64 0, .snil] ps).map .agg := buildD_eq ze79 (by kernel_rfl)
theorem bc79_0 : ∀ cs v ps, bldD Try.prog 79 cs ((0, v) :: ps) = if v.cells.length = 16 ∧ 0 + 16 ≤ cs.length ∧ v.cells.all D.one = true then bldD Try.prog 79 (cs.take 0 ++ v.cells ++ cs.drop (0 + 16)) ps else none := bld_cons (ty := 40) (by kernel_rfl) sz40
theorem bc79_1 : ∀ cs v ps, bldD Try.prog 79 cs ((1, v) :: ps) = if v.cells.length = 1 ∧ 16 + 1 ≤ cs.length ∧ v.cells.all D.one = true then bldD Try.prog 79 (cs.take 16 ++ v.cells ++ cs.drop (16 + 1)) ps else none := bld_cons (ty := 23) (by kernel_rfl) sz23
theorem bc79_3 : ∀ cs v ps, bldD Try.prog 79 cs ((3, v) :: ps) = if v.cells.length = 5 ∧ 20 + 5 ≤ cs.length ∧ v.cells.all D.one = true then bldD Try.prog 79 (cs.take 20 ++ v.cells ++ cs.drop (20 + 5)) ps else none := bld_cons (ty := 50) (by kernel_rfl) sz50
theorem bu123 : ∀ ps, buildD Try.prog 123 ps = (bldD Try.prog 123 [.int .i64 0, .int .i64 0] ps).map .agg := buildD_eq ze123 (by kernel_rfl)
theorem bc123_0 : ∀ cs v ps, bldD Try.prog 123 cs ((0, v) :: ps) = if v.cells.length = 1 ∧ 0 + 1 ≤ cs.length ∧ v.cells.all D.one = true then bldD Try.prog 123 (cs.take 0 ++ v.cells ++ cs.drop (0 + 1)) ps else none := bld_cons (ty := 3) (by kernel_rfl) sz3
theorem bc123_1 : ∀ cs v ps, bldD Try.prog 123 cs ((1, v) :: ps) = if v.cells.length = 1 ∧ 1 + 1 ≤ cs.length ∧ v.cells.all D.one = true then bldD Try.prog 123 (cs.take 1 ++ v.cells ++ cs.drop (1 + 1)) ps else none := bld_cons (ty := 3) (by kernel_rfl) sz3
theorem bu129 : ∀ ps, buildD Try.prog 129 ps = (bldD Try.prog 129 [.str ByteArray.empty, .int .i64 0, .int .i64 0, .int .i64 0] ps).map .agg := buildD_eq ze129 (by kernel_rfl)
theorem bc129_0 : ∀ cs v ps, bldD Try.prog 129 cs ((0, v) :: ps) = if v.cells.length = 1 ∧ 0 + 1 ≤ cs.length ∧ v.cells.all D.one = true then bldD Try.prog 129 (cs.take 0 ++ v.cells ++ cs.drop (0 + 1)) ps else none := bld_cons (ty := 9) (by kernel_rfl) sz9
theorem bc129_1 : ∀ cs v ps, bldD Try.prog 129 cs ((1, v) :: ps) = if v.cells.length = 1 ∧ 1 + 1 ≤ cs.length ∧ v.cells.all D.one = true then bldD Try.prog 129 (cs.take 1 ++ v.cells ++ cs.drop (1 + 1)) ps else none := bld_cons (ty := 3) (by kernel_rfl) sz3
theorem bc129_2 : ∀ cs v ps, bldD Try.prog 129 cs ((2, v) :: ps) = if v.cells.length = 1 ∧ 2 + 1 ≤ cs.length ∧ v.cells.all D.one = true then bldD Try.prog 129 (cs.take 2 ++ v.cells ++ cs.drop (2 + 1)) ps else none := bld_cons (ty := 3) (by kernel_rfl) sz3
theorem bc129_3 : ∀ cs v ps, bldD Try.prog 129 cs ((3, v) :: ps) = if v.cells.length = 1 ∧ 3 + 1 ≤ cs.length ∧ v.cells.all D.one = true then bldD Try.prog 129 (cs.take 3 ++ v.cells ++ cs.drop (3 + 1)) ps else none := bld_cons (ty := 3) (by kernel_rfl) sz3
theorem ft33 : flatT Try.prog 33 = some [1, 1] := by kernel_rfl
theorem ft36 : flatT Try.prog 36 = some [1, 1, 1] := by kernel_rfl
theorem ft38 : flatT Try.prog 38 = some [1, 1] := by kernel_rfl
theorem ft60 : flatT Try.prog 60 = some [1, 1, 1, 1, 1, 1] := by kernel_rfl
theorem dr3_15 : drawInfo Try.prog cfg (opsAt Try.f3 15) = some [] := by kernel_rfl
theorem dr3_17 : drawInfo Try.prog cfg (opsAt Try.f3 17) = some [] := by kernel_rfl
theorem dr5_9 : drawInfo Try.prog cfg (opsAt Try.f5 9) = some [] := by kernel_rfl
theorem dr6_17 : drawInfo Try.prog cfg (opsAt Try.f6 17) = some [] := by kernel_rfl
theorem dr10_8 : drawInfo Try.prog cfg (opsAt Try.f10 8) = some [] := by kernel_rfl
theorem dr12_4 : drawInfo Try.prog cfg (opsAt Try.f12 4) = some [(2, 3)] := by kernel_rfl
theorem dr14_23 : drawInfo Try.prog cfg (opsAt Try.f14 23) = some [(7, 8)] := by kernel_rfl
theorem dr15_6 : drawInfo Try.prog cfg (opsAt Try.f15 6) = some [] := by kernel_rfl
theorem dr17_4 : drawInfo Try.prog cfg (opsAt Try.f17 4) = some [] := by kernel_rfl
theorem dr25_1 : drawInfo Try.prog cfg (opsAt Try.f25 1) = some [] := by kernel_rfl
theorem dr27_11 : drawInfo Try.prog cfg (opsAt Try.f27 11) = some [] := by kernel_rfl
theorem dr27_18 : drawInfo Try.prog cfg (opsAt Try.f27 18) = some [] := by kernel_rfl
theorem dr28_1 : drawInfo Try.prog cfg (opsAt Try.f28 1) = some [(4, 2), (7, 2), (7, 5)] := by kernel_rfl
theorem dr29_7 : drawInfo Try.prog cfg (opsAt Try.f29 7) = some [] := by kernel_rfl
theorem dr29_9 : drawInfo Try.prog cfg (opsAt Try.f29 9) = some [] := by kernel_rfl
theorem dr29_11 : drawInfo Try.prog cfg (opsAt Try.f29 11) = some [] := by kernel_rfl
theorem dr32_1 : drawInfo Try.prog cfg (opsAt Try.f32 1) = some [(2, 6)] := by kernel_rfl
theorem dr34_0 : drawInfo Try.prog cfg (opsAt Try.f34 0) = some [] := by kernel_rfl
theorem dr34_4 : drawInfo Try.prog cfg (opsAt Try.f34 4) = some [(5, 24), (5, 25), (10, 24), (10, 25)] := by kernel_rfl
theorem dr35_0 : drawInfo Try.prog cfg (opsAt Try.f35 0) = some [] := by kernel_rfl
theorem dr35_6 : drawInfo Try.prog cfg (opsAt Try.f35 6) = some [] := by kernel_rfl
theorem dr36_5 : drawInfo Try.prog cfg (opsAt Try.f36 5) = some [] := by kernel_rfl
theorem dr36_7 : drawInfo Try.prog cfg (opsAt Try.f36 7) = some [] := by kernel_rfl
theorem dr36_9 : drawInfo Try.prog cfg (opsAt Try.f36 9) = some [] := by kernel_rfl
theorem dr36_11 : drawInfo Try.prog cfg (opsAt Try.f36 11) = some [] := by kernel_rfl
theorem dr37_3 : drawInfo Try.prog cfg (opsAt Try.f37 3) = some [] := by kernel_rfl
theorem dr37_5 : drawInfo Try.prog cfg (opsAt Try.f37 5) = some [] := by kernel_rfl
theorem dr37_7 : drawInfo Try.prog cfg (opsAt Try.f37 7) = some [(4, 11), (9, 11)] := by kernel_rfl
theorem dr37_22 : drawInfo Try.prog cfg (opsAt Try.f37 22) = some [] := by kernel_rfl
theorem dr38_6 : drawInfo Try.prog cfg (opsAt Try.f38 6) = some [] := by kernel_rfl
theorem dr42_6 : drawInfo Try.prog cfg (opsAt Try.f42 6) = some [] := by kernel_rfl
theorem dr43_6 : drawInfo Try.prog cfg (opsAt Try.f43 6) = some [] := by kernel_rfl
theorem dr45_6 : drawInfo Try.prog cfg (opsAt Try.f45 6) = some [] := by kernel_rfl
theorem dr58_2 : drawInfo Try.prog cfg (opsAt Try.f58 2) = some [] := by kernel_rfl
theorem dr59_2 : drawInfo Try.prog cfg (opsAt Try.f59 2) = some [] := by kernel_rfl
theorem dr62_1 : drawInfo Try.prog cfg (opsAt Try.f62 1) = some [] := by kernel_rfl
theorem dr63_1 : drawInfo Try.prog cfg (opsAt Try.f63 1) = some [] := by kernel_rfl
theorem dr64_1 : drawInfo Try.prog cfg (opsAt Try.f64 1) = some [] := by kernel_rfl
theorem dr65_3 : drawInfo Try.prog cfg (opsAt Try.f65 3) = some [] := by kernel_rfl
theorem dr70_12 : drawInfo Try.prog cfg (opsAt Try.f70 12) = some [] := by kernel_rfl
theorem dr70_16 : drawInfo Try.prog cfg (opsAt Try.f70 16) = some [] := by kernel_rfl
theorem dr72_6 : drawInfo Try.prog cfg (opsAt Try.f72 6) = some [] := by kernel_rfl
theorem dr76_4 : drawInfo Try.prog cfg (opsAt Try.f76 4) = some [(1, 2)] := by kernel_rfl
theorem dr76_12 : drawInfo Try.prog cfg (opsAt Try.f76 12) = some [(1, 2)] := by kernel_rfl
theorem dr83_1 : drawInfo Try.prog cfg (opsAt Try.f83 1) = some [] := by kernel_rfl
attribute [simp] ag3 sz3 by3 ze3 un3 ag4 sz4 by4 ze4 un4 ag5 sz5 by5 ze5 un5 ag9 sz9 by9 ze9 un9 ag23 sz23 by23 ze23 un23 el23 ag24 sz24 by24 ze24 un24 el24 ag28 sz28 by28 ze28 un28 el28 ag29 sz29 by29 ze29 un29 el29 ag31 sz31 by31 ze31 ag33 sz33 by33 ze33 ag34 sz34 by34 ze34 un34 el34 ag36 sz36 by36 ze36 ag38 sz38 by38 ze38 ag40 sz40 by40 ze40 ag43 sz43 by43 ze43 un43 el43 ag50 sz50 by50 ze50 ag56 sz56 by56 ze56 un56 ag57 sz57 by57 ze57 un57 ag60 sz60 by60 ze60 ag66 sz66 by66 ze66 un66 ag74 sz74 by74 ze74 ag77 sz77 by77 ze77 ag79 sz79 by79 ze79 ag98 sz98 by98 ze98 un98 el98 ag115 sz115 by115 ze115 un115 el115 ag123 sz123 by123 ze123 ag129 sz129 by129 ze129 ag134 sz134 by134 ze134 ag137 sz137 by137 ze137 ag140 sz140 by140 ze140 un140 ag144 sz144 by144 ze144 un144 ag145 sz145 by145 ze145 un145 el145 fp31_0 fq31_0 fp31_1 fq31_1 fp31_2 fq31_2 fp31_3 fq31_3 fp33_0 fq33_0 fp33_1 fq33_1 fp36_0 fq36_0 fp36_1 fq36_1 fp40_0 fq40_0 fp40_1 fq40_1 fp40_2 fq40_2 fp40_3 fq40_3 fp40_4 fq40_4 fp40_5 fq40_5 fp40_6 fq40_6 fp40_7 fq40_7 fp40_8 fq40_8 fp40_9 fq40_9 fp40_10 fq40_10 fp40_11 fq40_11 fp40_12 fq40_12 fp50_0 fq50_0 fp50_1 fq50_1 fp50_2 fq50_2 fp50_3 fq50_3 fp50_4 fq50_4 fp60_0 fq60_0 fp60_2 fq60_2 fp77_0 fq77_0 fp77_1 fq77_1 fp77_2 fq77_2 fp79_0 fq79_0 fp79_1 fq79_1 fp79_2 fq79_2 fp79_3 fq79_3 fp123_0 fq123_0 fp123_1 fq123_1 fp129_2 fq129_2 fp129_3 fq129_3 bu31 bc31_0 bc31_1 bc31_2 bu33 bc33_0 bc33_1 bu36 bc36_0 bc36_1 bu38 bc38_0 bu40 bc40_0 bc40_3 bc40_4 bc40_5 bc40_11 bu50 bc50_0 bc50_1 bc50_2 bc50_3 bc50_4 bu60 bc60_0 bc60_1 bc60_2 bu77 bc77_0 bc77_1 bc77_2 bu79 bc79_0 bc79_1 bc79_3 bu123 bc123_0 bc123_1 bu129 bc129_0 bc129_1 bc129_2 bc129_3 ft33 ft36 ft38 ft60 sh3 sh4 sh5 sh6 sh7 sh8 sh9 sh10 sh11 sh12 sh13 sh14 sh15 sh16 sh17 sh18 sh19 sh20 sh21 sh22 sh23 sh24 sh25 sh26 sh27 sh28 sh29 sh30 sh31 sh32 sh33 sh34 sh35 sh36 sh37 sh38 sh39 sh40 sh41 sh42 sh43 sh44 sh45 sh46 sh47 sh48 sh49 sh50 sh51 sh52 sh53 sh54 sh55 sh56 sh57 sh58 sh59 sh60 sh61 sh62 sh63 sh64 sh65 sh66 sh67 sh68 sh69 sh70 sh71 sh72 sh73 sh74 sh75 sh76 sh77 sh78 sh79 sh80 sh81 sh82 sh83 sh84 sh85 sh86 sh87 sh88 sh89 sh90 sh91 sh92 sh93 sh94
attribute [local simp] fits_agg fits_one
theorem lit23_0 (dst ty pos af g st ps) : opD Try.prog cfg R ⟨dst, .buildSlice 23 0 ps, ty, pos, af, g⟩ st = (evps st.σ ps.toList).bind (litK 4 true [] st.h) := lit_eq dst ty pos af g st ps el23 sz31 ag31 ze31 rfl (by simp) (by decide) (by decide)
theorem litn23_0 (dst ty pos af g st ps) : opD Try.prog ⟨cfg.shared, cfg.ext, true, cfg.lit⟩ R ⟨dst, .buildSlice 23 0 ps, ty, pos, af, g⟩ st = (evps st.σ ps.toList).bind (litK 4 true [] st.h) := lit_eq dst ty pos af g st ps el23 sz31 ag31 ze31 rfl (by simp) (by decide) (by decide)
theorem lit28_0 (dst ty pos af g st ps) : opD Try.prog cfg R ⟨dst, .buildSlice 28 0 ps, ty, pos, af, g⟩ st = (evps st.σ ps.toList).bind (litK 2 true [] st.h) := lit_eq dst ty pos af g st ps el28 sz33 ag33 ze33 rfl (by simp) (by decide) (by decide)
theorem litn28_0 (dst ty pos af g st ps) : opD Try.prog ⟨cfg.shared, cfg.ext, true, cfg.lit⟩ R ⟨dst, .buildSlice 28 0 ps, ty, pos, af, g⟩ st = (evps st.σ ps.toList).bind (litK 2 true [] st.h) := lit_eq dst ty pos af g st ps el28 sz33 ag33 ze33 rfl (by simp) (by decide) (by decide)
theorem lit28_1 (dst ty pos af g st ps) : opD Try.prog cfg R ⟨dst, .buildSlice 28 1 ps, ty, pos, af, g⟩ st = (evps st.σ ps.toList).bind (litK 2 true [(.agg [.int .i64 0, .int .i64 0])] st.h) := lit_eq dst ty pos af g st ps el28 sz33 ag33 ze33 rfl (by simp) (by decide) (by decide)
theorem litn28_1 (dst ty pos af g st ps) : opD Try.prog ⟨cfg.shared, cfg.ext, true, cfg.lit⟩ R ⟨dst, .buildSlice 28 1 ps, ty, pos, af, g⟩ st = (evps st.σ ps.toList).bind (litK 2 true [(.agg [.int .i64 0, .int .i64 0])] st.h) := lit_eq dst ty pos af g st ps el28 sz33 ag33 ze33 rfl (by simp) (by decide) (by decide)
theorem lit28_2 (dst ty pos af g st ps) : opD Try.prog cfg R ⟨dst, .buildSlice 28 2 ps, ty, pos, af, g⟩ st = (evps st.σ ps.toList).bind (litK 2 true [(.agg [.int .i64 0, .int .i64 0]), (.agg [.int .i64 0, .int .i64 0])] st.h) := lit_eq dst ty pos af g st ps el28 sz33 ag33 ze33 rfl (by simp) (by decide) (by decide)
theorem litn28_2 (dst ty pos af g st ps) : opD Try.prog ⟨cfg.shared, cfg.ext, true, cfg.lit⟩ R ⟨dst, .buildSlice 28 2 ps, ty, pos, af, g⟩ st = (evps st.σ ps.toList).bind (litK 2 true [(.agg [.int .i64 0, .int .i64 0]), (.agg [.int .i64 0, .int .i64 0])] st.h) := lit_eq dst ty pos af g st ps el28 sz33 ag33 ze33 rfl (by simp) (by decide) (by decide)
theorem lit29_1 (dst ty pos af g st ps) : opD Try.prog cfg R ⟨dst, .buildSlice 29 1 ps, ty, pos, af, g⟩ st = (evps st.σ ps.toList).bind (litK 3 true [(.agg [.int .i64 0, .int .i64 0, .int .i64 0])] st.h) := lit_eq dst ty pos af g st ps el29 sz77 ag77 ze77 rfl (by simp) (by decide) (by decide)
theorem litn29_1 (dst ty pos af g st ps) : opD Try.prog ⟨cfg.shared, cfg.ext, true, cfg.lit⟩ R ⟨dst, .buildSlice 29 1 ps, ty, pos, af, g⟩ st = (evps st.σ ps.toList).bind (litK 3 true [(.agg [.int .i64 0, .int .i64 0, .int .i64 0])] st.h) := lit_eq dst ty pos af g st ps el29 sz77 ag77 ze77 rfl (by simp) (by decide) (by decide)
theorem lit34_0 (dst ty pos af g st ps) : opD Try.prog cfg R ⟨dst, .buildSlice 34 0 ps, ty, pos, af, g⟩ st = (evps st.σ ps.toList).bind (litK 6 true [] st.h) := lit_eq dst ty pos af g st ps el34 sz60 ag60 ze60 rfl (by simp) (by decide) (by decide)
theorem litn34_0 (dst ty pos af g st ps) : opD Try.prog ⟨cfg.shared, cfg.ext, true, cfg.lit⟩ R ⟨dst, .buildSlice 34 0 ps, ty, pos, af, g⟩ st = (evps st.σ ps.toList).bind (litK 6 true [] st.h) := lit_eq dst ty pos af g st ps el34 sz60 ag60 ze60 rfl (by simp) (by decide) (by decide)
theorem lit43_1 (dst ty pos af g st ps) : opD Try.prog cfg R ⟨dst, .buildSlice 43 1 ps, ty, pos, af, g⟩ st = (evps st.σ ps.toList).bind (litK 1 false [(.int .i64 0)] st.h) := lit_eq dst ty pos af g st ps el43 sz3 ag3 ze3 rfl (by simp) (by decide) (by decide)
theorem litn43_1 (dst ty pos af g st ps) : opD Try.prog ⟨cfg.shared, cfg.ext, true, cfg.lit⟩ R ⟨dst, .buildSlice 43 1 ps, ty, pos, af, g⟩ st = (evps st.σ ps.toList).bind (litK 1 false [(.int .i64 0)] st.h) := lit_eq dst ty pos af g st ps el43 sz3 ag3 ze3 rfl (by simp) (by decide) (by decide)
theorem lit43_2 (dst ty pos af g st ps) : opD Try.prog cfg R ⟨dst, .buildSlice 43 2 ps, ty, pos, af, g⟩ st = (evps st.σ ps.toList).bind (litK 1 false [(.int .i64 0), (.int .i64 0)] st.h) := lit_eq dst ty pos af g st ps el43 sz3 ag3 ze3 rfl (by simp) (by decide) (by decide)
theorem litn43_2 (dst ty pos af g st ps) : opD Try.prog ⟨cfg.shared, cfg.ext, true, cfg.lit⟩ R ⟨dst, .buildSlice 43 2 ps, ty, pos, af, g⟩ st = (evps st.σ ps.toList).bind (litK 1 false [(.int .i64 0), (.int .i64 0)] st.h) := lit_eq dst ty pos af g st ps el43 sz3 ag3 ze3 rfl (by simp) (by decide) (by decide)
theorem lit115_0 (dst ty pos af g st ps) : opD Try.prog cfg R ⟨dst, .buildSlice 115 0 ps, ty, pos, af, g⟩ st = (evps st.σ ps.toList).bind (litK 1 false [] st.h) := lit_eq dst ty pos af g st ps el115 sz9 ag9 ze9 rfl (by simp) (by decide) (by decide)
theorem litn115_0 (dst ty pos af g st ps) : opD Try.prog ⟨cfg.shared, cfg.ext, true, cfg.lit⟩ R ⟨dst, .buildSlice 115 0 ps, ty, pos, af, g⟩ st = (evps st.σ ps.toList).bind (litK 1 false [] st.h) := lit_eq dst ty pos af g st ps el115 sz9 ag9 ze9 rfl (by simp) (by decide) (by decide)
theorem lit115_1 (dst ty pos af g st ps) : opD Try.prog cfg R ⟨dst, .buildSlice 115 1 ps, ty, pos, af, g⟩ st = (evps st.σ ps.toList).bind (litK 1 false [(.str ByteArray.empty)] st.h) := lit_eq dst ty pos af g st ps el115 sz9 ag9 ze9 rfl (by simp) (by decide) (by decide)
theorem litn115_1 (dst ty pos af g st ps) : opD Try.prog ⟨cfg.shared, cfg.ext, true, cfg.lit⟩ R ⟨dst, .buildSlice 115 1 ps, ty, pos, af, g⟩ st = (evps st.σ ps.toList).bind (litK 1 false [(.str ByteArray.empty)] st.h) := lit_eq dst ty pos af g st ps el115 sz9 ag9 ze9 rfl (by simp) (by decide) (by decide)
theorem lit115_17 (dst ty pos af g st ps) : opD Try.prog cfg R ⟨dst, .buildSlice 115 17 ps, ty, pos, af, g⟩ st = (evps st.σ ps.toList).bind (litK 1 false [(.str ByteArray.empty), (.str ByteArray.empty), (.str ByteArray.empty), (.str ByteArray.empty), (.str ByteArray.empty), (.str ByteArray.empty), (.str ByteArray.empty), (.str ByteArray.empty), (.str ByteArray.empty), (.str ByteArray.empty), (.str ByteArray.empty), (.str ByteArray.empty), (.str ByteArray.empty), (.str ByteArray.empty), (.str ByteArray.empty), (.str ByteArray.empty), (.str ByteArray.empty)] st.h) := lit_eq dst ty pos af g st ps el115 sz9 ag9 ze9 rfl (by simp) (by decide) (by decide)
theorem litn115_17 (dst ty pos af g st ps) : opD Try.prog ⟨cfg.shared, cfg.ext, true, cfg.lit⟩ R ⟨dst, .buildSlice 115 17 ps, ty, pos, af, g⟩ st = (evps st.σ ps.toList).bind (litK 1 false [(.str ByteArray.empty), (.str ByteArray.empty), (.str ByteArray.empty), (.str ByteArray.empty), (.str ByteArray.empty), (.str ByteArray.empty), (.str ByteArray.empty), (.str ByteArray.empty), (.str ByteArray.empty), (.str ByteArray.empty), (.str ByteArray.empty), (.str ByteArray.empty), (.str ByteArray.empty), (.str ByteArray.empty), (.str ByteArray.empty), (.str ByteArray.empty), (.str ByteArray.empty)] st.h) := lit_eq dst ty pos af g st ps el115 sz9 ag9 ze9 rfl (by simp) (by decide) (by decide)
theorem lit145_1 (dst ty pos af g st ps) : opD Try.prog cfg R ⟨dst, .buildSlice 145 1 ps, ty, pos, af, g⟩ st = (evps st.σ ps.toList).bind (litK 1 false [(.int .u8 0)] st.h) := lit_eq dst ty pos af g st ps el145 sz5 ag5 ze5 rfl (by simp) (by decide) (by decide)
theorem litn145_1 (dst ty pos af g st ps) : opD Try.prog ⟨cfg.shared, cfg.ext, true, cfg.lit⟩ R ⟨dst, .buildSlice 145 1 ps, ty, pos, af, g⟩ st = (evps st.σ ps.toList).bind (litK 1 false [(.int .u8 0)] st.h) := lit_eq dst ty pos af g st ps el145 sz5 ag5 ze5 rfl (by simp) (by decide) (by decide)
theorem le9 (h ty) (s : ByteArray) : builtinD Try.prog h .len #[9] ty [.str s] = some (.int .i64 s.size, h) := by simp [builtinD, un9]
theorem le23 (h ty) (x : D) : builtinD Try.prog h .len #[23] ty [x] = (lenS x).map fun (n : Nat) => (D.int .i64 (n : Int), h) := bu_len (t := 23) rfl un23
theorem ap23 (h ty s x) : builtinD Try.prog h .append #[23, 23] ty [s, x] = (elsZ h 4 s).bind fun old => (elsZ h 4 x).bind (apK 48 4 h s old) := app_eq rfl rfl el23 un23 sz31 sz31 by31 ag31 (by simp [zeroOk]) (by decide) (by decide) h ty s x
theorem cp23 (h ty d s) : builtinD Try.prog h .copy #[23, 23] ty [d, s] = (lenS d).bind fun dl => (elsZ h 4 s).bind fun xs => cpN 4 h d (Nat.min xs.length dl) xs := copy_eq rfl el23 sz31 h ty d s
theorem ixs23 (xs tg i) : indexAddrD Try.prog 23 (.sl 4 xs tg) i = (idxD xs.length i).map fun i => .fptr 4 xs i 0 := ixsl_eq un23 sz31 xs tg i
theorem ixo23 (id ver off len i) : indexAddrD Try.prog 23 (.own 4 id ver off len) i = (idxD len i).map fun i => .ptr id ver (off + i) 0 := ixown_eq un23 sz31 id ver off len i
theorem le24 (h ty) (x : D) : builtinD Try.prog h .len #[24] ty [x] = (lenS x).map fun (n : Nat) => (D.int .i64 (n : Int), h) := bu_len (t := 24) rfl un24
theorem ap24 (h ty s x) : builtinD Try.prog h .append #[24, 24] ty [s, x] = (elsZ h 3 s).bind fun old => (elsZ h 3 x).bind (apK 24 3 h s old) := app_eq rfl rfl el24 un24 sz36 sz36 by36 ag36 (by simp [zeroOk]) (by decide) (by decide) h ty s x
theorem cp24 (h ty d s) : builtinD Try.prog h .copy #[24, 24] ty [d, s] = (lenS d).bind fun dl => (elsZ h 3 s).bind fun xs => cpN 3 h d (Nat.min xs.length dl) xs := copy_eq rfl el24 sz36 h ty d s
theorem ixs24 (xs tg i) : indexAddrD Try.prog 24 (.sl 3 xs tg) i = (idxD xs.length i).map fun i => .fptr 3 xs i 0 := ixsl_eq un24 sz36 xs tg i
theorem ixo24 (id ver off len i) : indexAddrD Try.prog 24 (.own 3 id ver off len) i = (idxD len i).map fun i => .ptr id ver (off + i) 0 := ixown_eq un24 sz36 id ver off len i
theorem le28 (h ty) (x : D) : builtinD Try.prog h .len #[28] ty [x] = (lenS x).map fun (n : Nat) => (D.int .i64 (n : Int), h) := bu_len (t := 28) rfl un28
theorem ap28 (h ty s x) : builtinD Try.prog h .append #[28, 28] ty [s, x] = (elsZ h 2 s).bind fun old => (elsZ h 2 x).bind (apK 16 2 h s old) := app_eq rfl rfl el28 un28 sz33 sz33 by33 ag33 (by simp [zeroOk]) (by decide) (by decide) h ty s x
theorem cp28 (h ty d s) : builtinD Try.prog h .copy #[28, 28] ty [d, s] = (lenS d).bind fun dl => (elsZ h 2 s).bind fun xs => cpN 2 h d (Nat.min xs.length dl) xs := copy_eq rfl el28 sz33 h ty d s
theorem ixs28 (xs tg i) : indexAddrD Try.prog 28 (.sl 2 xs tg) i = (idxD xs.length i).map fun i => .fptr 2 xs i 0 := ixsl_eq un28 sz33 xs tg i
theorem ixo28 (id ver off len i) : indexAddrD Try.prog 28 (.own 2 id ver off len) i = (idxD len i).map fun i => .ptr id ver (off + i) 0 := ixown_eq un28 sz33 id ver off len i
theorem le29 (h ty) (x : D) : builtinD Try.prog h .len #[29] ty [x] = (lenS x).map fun (n : Nat) => (D.int .i64 (n : Int), h) := bu_len (t := 29) rfl un29
theorem ap29 (h ty s x) : builtinD Try.prog h .append #[29, 29] ty [s, x] = (elsZ h 3 s).bind fun old => (elsZ h 3 x).bind (apK 24 3 h s old) := app_eq rfl rfl el29 un29 sz77 sz77 by77 ag77 (by simp [zeroOk]) (by decide) (by decide) h ty s x
theorem cp29 (h ty d s) : builtinD Try.prog h .copy #[29, 29] ty [d, s] = (lenS d).bind fun dl => (elsZ h 3 s).bind fun xs => cpN 3 h d (Nat.min xs.length dl) xs := copy_eq rfl el29 sz77 h ty d s
theorem ixs29 (xs tg i) : indexAddrD Try.prog 29 (.sl 3 xs tg) i = (idxD xs.length i).map fun i => .fptr 3 xs i 0 := ixsl_eq un29 sz77 xs tg i
theorem ixo29 (id ver off len i) : indexAddrD Try.prog 29 (.own 3 id ver off len) i = (idxD len i).map fun i => .ptr id ver (off + i) 0 := ixown_eq un29 sz77 id ver off len i
theorem le34 (h ty) (x : D) : builtinD Try.prog h .len #[34] ty [x] = (lenS x).map fun (n : Nat) => (D.int .i64 (n : Int), h) := bu_len (t := 34) rfl un34
theorem ap34 (h ty s x) : builtinD Try.prog h .append #[34, 34] ty [s, x] = (elsZ h 6 s).bind fun old => (elsZ h 6 x).bind (apK 48 6 h s old) := app_eq rfl rfl el34 un34 sz60 sz60 by60 ag60 (by simp [zeroOk]) (by decide) (by decide) h ty s x
theorem cp34 (h ty d s) : builtinD Try.prog h .copy #[34, 34] ty [d, s] = (lenS d).bind fun dl => (elsZ h 6 s).bind fun xs => cpN 6 h d (Nat.min xs.length dl) xs := copy_eq rfl el34 sz60 h ty d s
theorem ixs34 (xs tg i) : indexAddrD Try.prog 34 (.sl 6 xs tg) i = (idxD xs.length i).map fun i => .fptr 6 xs i 0 := ixsl_eq un34 sz60 xs tg i
theorem ixo34 (id ver off len i) : indexAddrD Try.prog 34 (.own 6 id ver off len) i = (idxD len i).map fun i => .ptr id ver (off + i) 0 := ixown_eq un34 sz60 id ver off len i
theorem le43 (h ty) (x : D) : builtinD Try.prog h .len #[43] ty [x] = (lenS x).map fun (n : Nat) => (D.int .i64 (n : Int), h) := bu_len (t := 43) rfl un43
theorem ap43 (h ty s x) : builtinD Try.prog h .append #[43, 43] ty [s, x] = (elsZ h 1 s).bind fun old => (elsZ h 1 x).bind (apK 8 1 h s old) := app_eq rfl rfl el43 un43 sz3 sz3 by3 ag3 (by simp [zeroOk]) (by decide) (by decide) h ty s x
theorem cp43 (h ty d s) : builtinD Try.prog h .copy #[43, 43] ty [d, s] = (lenS d).bind fun dl => (elsZ h 1 s).bind fun xs => cpN 1 h d (Nat.min xs.length dl) xs := copy_eq rfl el43 sz3 h ty d s
theorem ixs43 (xs tg i) : indexAddrD Try.prog 43 (.sl 1 xs tg) i = (idxD xs.length i).map fun i => .fptr 1 xs i 0 := ixsl_eq un43 sz3 xs tg i
theorem ixo43 (id ver off len i) : indexAddrD Try.prog 43 (.own 1 id ver off len) i = (idxD len i).map fun i => .ptr id ver (off + i) 0 := ixown_eq un43 sz3 id ver off len i
theorem le56 (h ty) (x : D) : builtinD Try.prog h .len #[56] ty [x] = some (.int .i64 2, h) := by simp [builtinD, un56]
theorem le57 (h ty) (x : D) : builtinD Try.prog h .len #[57] ty [x] = some (.int .i64 2, h) := by simp [builtinD, un57]
theorem le98 (h ty) (x : D) : builtinD Try.prog h .len #[98] ty [x] = (lenS x).map fun (n : Nat) => (D.int .i64 (n : Int), h) := bu_len (t := 98) rfl un98
theorem ap98 (h ty s x) : builtinD Try.prog h .append #[98, 98] ty [s, x] = (elsZ h 1 s).bind fun old => (elsZ h 1 x).bind (apK 1 1 h s old) := app_eq rfl rfl el98 un98 sz4 sz4 by4 ag4 (by simp [zeroOk]) (by decide) (by decide) h ty s x
theorem cp98 (h ty d s) : builtinD Try.prog h .copy #[98, 98] ty [d, s] = (lenS d).bind fun dl => (elsZ h 1 s).bind fun xs => cpN 1 h d (Nat.min xs.length dl) xs := copy_eq rfl el98 sz4 h ty d s
theorem ixs98 (xs tg i) : indexAddrD Try.prog 98 (.sl 1 xs tg) i = (idxD xs.length i).map fun i => .fptr 1 xs i 0 := ixsl_eq un98 sz4 xs tg i
theorem ixo98 (id ver off len i) : indexAddrD Try.prog 98 (.own 1 id ver off len) i = (idxD len i).map fun i => .ptr id ver (off + i) 0 := ixown_eq un98 sz4 id ver off len i
theorem le115 (h ty) (x : D) : builtinD Try.prog h .len #[115] ty [x] = (lenS x).map fun (n : Nat) => (D.int .i64 (n : Int), h) := bu_len (t := 115) rfl un115
theorem ap115 (h ty s x) : builtinD Try.prog h .append #[115, 115] ty [s, x] = (elsZ h 1 s).bind fun old => (elsZ h 1 x).bind (apK 16 1 h s old) := app_eq rfl rfl el115 un115 sz9 sz9 by9 ag9 (by simp [zeroOk]) (by decide) (by decide) h ty s x
theorem cp115 (h ty d s) : builtinD Try.prog h .copy #[115, 115] ty [d, s] = (lenS d).bind fun dl => (elsZ h 1 s).bind fun xs => cpN 1 h d (Nat.min xs.length dl) xs := copy_eq rfl el115 sz9 h ty d s
theorem ixs115 (xs tg i) : indexAddrD Try.prog 115 (.sl 1 xs tg) i = (idxD xs.length i).map fun i => .fptr 1 xs i 0 := ixsl_eq un115 sz9 xs tg i
theorem ixo115 (id ver off len i) : indexAddrD Try.prog 115 (.own 1 id ver off len) i = (idxD len i).map fun i => .ptr id ver (off + i) 0 := ixown_eq un115 sz9 id ver off len i
theorem le140 (h ty) (x : D) : builtinD Try.prog h .len #[140] ty [x] = some (.int .i64 17, h) := by simp [builtinD, un140]
theorem le145 (h ty) (x : D) : builtinD Try.prog h .len #[145] ty [x] = (lenS x).map fun (n : Nat) => (D.int .i64 (n : Int), h) := bu_len (t := 145) rfl un145
theorem ap145 (h ty s x) : builtinD Try.prog h .append #[145, 145] ty [s, x] = (elsZ h 1 s).bind fun old => (elsZ h 1 x).bind (apK 1 1 h s old) := app_eq rfl rfl el145 un145 sz5 sz5 by5 ag5 (by simp [zeroOk]) (by decide) (by decide) h ty s x
theorem cp145 (h ty d s) : builtinD Try.prog h .copy #[145, 145] ty [d, s] = (lenS d).bind fun dl => (elsZ h 1 s).bind fun xs => cpN 1 h d (Nat.min xs.length dl) xs := copy_eq rfl el145 sz5 h ty d s
theorem ixs145 (xs tg i) : indexAddrD Try.prog 145 (.sl 1 xs tg) i = (idxD xs.length i).map fun i => .fptr 1 xs i 0 := ixsl_eq un145 sz5 xs tg i
theorem ixo145 (id ver off len i) : indexAddrD Try.prog 145 (.own 1 id ver off len) i = (idxD len i).map fun i => .ptr id ver (off + i) 0 := ixown_eq un145 sz5 id ver off len i
attribute [simp] lit23_0 litn23_0 lit28_0 litn28_0 lit28_1 litn28_1 lit28_2 litn28_2 lit29_1 litn29_1 lit34_0 litn34_0 lit43_1 litn43_1 lit43_2 litn43_2 lit115_0 litn115_0 lit115_1 litn115_1 lit115_17 litn115_17 lit145_1 litn145_1 le9 le23 ap23 cp23 ixs23 ixo23 le24 ap24 cp24 ixs24 ixo24 le28 ap28 cp28 ixs28 ixo28 le29 ap29 cp29 ixs29 ixo29 le34 ap34 cp34 ixs34 ixo34 le43 ap43 cp43 ixs43 ixo43 le56 le57 le98 ap98 cp98 ixs98 ixo98 le115 ap115 cp115 ixs115 ixo115 le140 le145 ap145 cp145 ixs145 ixo145
end Go.Proofs.YtghidjgejmmcmaaW.Vm
