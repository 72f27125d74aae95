/- What the types of this program are, and which regions have their order open: for simp. Printed by facts.py. No conditions. -/
import Derived.Test.YtghidjgejmmcmaaGreatVmSim
import Derived.Test.YtghidjgejmmcmaaGreatProg
import Derived.KernelRfl
set_option linter.unusedVariables false
set_option linter.unusedSimpArgs false
namespace Go.Proofs.YtghidjgejmmcmaaGreatW.Vm
open Go Go.Proofs
def cfg : Cfg := { shared := fun f => f == 19 || f == 20 || f == 21 || f == 22 || f == 23 || f == 24 || f == 25 || f == 26 || f == 27 || f == 28 || f == 29 || f == 31 || f == 34 || f == 35 || f == 36 || f == 38 || f == 53 || f == 54 || f == 55 || f == 58 || f == 60 || f == 87, ext := fun _ => none, lit := fun t n => !((t == 23 && n == 1) || (t == 126 && n == 3)) }
theorem cfg_lit (t n : Nat) : cfg.lit t n = (!((t == 23 && n == 1) || (t == 126 && n == 3))) := rfl
theorem cfg_nomark : cfg.nomark = false := rfl
noncomputable abbrev R : Run := W Tryz.prog cfg
theorem sh3 : cfg.shared 3 = false := by decide
theorem sh4 : cfg.shared 4 = false := by decide
theorem sh5 : cfg.shared 5 = false := by decide
theorem sh6 : cfg.shared 6 = false := by decide
theorem sh7 : cfg.shared 7 = false := by decide
theorem sh8 : cfg.shared 8 = false := by decide
theorem sh9 : cfg.shared 9 = false := by decide
theorem sh10 : cfg.shared 10 = false := by decide
theorem sh11 : cfg.shared 11 = false := by decide
theorem sh12 : cfg.shared 12 = false := by decide
theorem sh13 : cfg.shared 13 = false := by decide
theorem sh14 : cfg.shared 14 = false := by decide
theorem sh15 : cfg.shared 15 = false := by decide
theorem sh16 : cfg.shared 16 = false := by decide
theorem sh17 : cfg.shared 17 = false := by decide
theorem sh18 : cfg.shared 18 = false := by decide
theorem sh19 : cfg.shared 19 = true := by decide
theorem sh20 : cfg.shared 20 = true := by decide
theorem sh21 : cfg.shared 21 = true := by decide
theorem sh22 : cfg.shared 22 = true := by decide
theorem sh23 : cfg.shared 23 = true := by decide
theorem sh24 : cfg.shared 24 = true := by decide
theorem sh25 : cfg.shared 25 = true := by decide
theorem sh26 : cfg.shared 26 = true := by decide
theorem sh27 : cfg.shared 27 = true := by decide
theorem sh28 : cfg.shared 28 = true := by decide
theorem sh29 : cfg.shared 29 = true := by decide
theorem sh30 : cfg.shared 30 = false := by decide
theorem sh31 : cfg.shared 31 = true := by decide
theorem sh32 : cfg.shared 32 = false := by decide
theorem sh33 : cfg.shared 33 = false := by decide
theorem sh34 : cfg.shared 34 = true := by decide
theorem sh35 : cfg.shared 35 = true := by decide
theorem sh36 : cfg.shared 36 = true := by decide
theorem sh37 : cfg.shared 37 = false := by decide
theorem sh38 : cfg.shared 38 = true := by decide
theorem sh39 : cfg.shared 39 = false := by decide
theorem sh40 : cfg.shared 40 = false := by decide
theorem sh41 : cfg.shared 41 = false := by decide
theorem sh42 : cfg.shared 42 = false := by decide
theorem sh43 : cfg.shared 43 = false := by decide
theorem sh44 : cfg.shared 44 = false := by decide
theorem sh45 : cfg.shared 45 = false := by decide
theorem sh46 : cfg.shared 46 = false := by decide
theorem sh47 : cfg.shared 47 = false := by decide
theorem sh48 : cfg.shared 48 = false := by decide
theorem sh49 : cfg.shared 49 = false := by decide
theorem sh50 : cfg.shared 50 = false := by decide
theorem sh51 : cfg.shared 51 = false := by decide
theorem sh52 : cfg.shared 52 = false := by decide
theorem sh53 : cfg.shared 53 = true := by decide
theorem sh54 : cfg.shared 54 = true := by decide
theorem sh55 : cfg.shared 55 = true := by decide
theorem sh56 : cfg.shared 56 = false := by decide
theorem sh57 : cfg.shared 57 = false := by decide
theorem sh58 : cfg.shared 58 = true := by decide
theorem sh59 : cfg.shared 59 = false := by decide
theorem sh60 : cfg.shared 60 = true := by decide
theorem sh61 : cfg.shared 61 = false := by decide
theorem sh62 : cfg.shared 62 = false := by decide
theorem sh63 : cfg.shared 63 = false := by decide
theorem sh64 : cfg.shared 64 = false := by decide
theorem sh65 : cfg.shared 65 = false := by decide
theorem sh66 : cfg.shared 66 = false := by decide
theorem sh67 : cfg.shared 67 = false := by decide
theorem sh68 : cfg.shared 68 = false := by decide
theorem sh69 : cfg.shared 69 = false := by decide
theorem sh70 : cfg.shared 70 = false := by decide
theorem sh71 : cfg.shared 71 = false := by decide
theorem sh72 : cfg.shared 72 = false := by decide
theorem sh73 : cfg.shared 73 = false := by decide
theorem sh74 : cfg.shared 74 = false := by decide
theorem sh75 : cfg.shared 75 = false := by decide
theorem sh76 : cfg.shared 76 = false := by decide
theorem sh77 : cfg.shared 77 = false := by decide
theorem sh78 : cfg.shared 78 = false := by decide
theorem sh79 : cfg.shared 79 = false := by decide
theorem sh80 : cfg.shared 80 = false := by decide
theorem sh81 : cfg.shared 81 = false := by decide
theorem sh82 : cfg.shared 82 = false := by decide
theorem sh83 : cfg.shared 83 = false := by decide
theorem sh84 : cfg.shared 84 = false := by decide
theorem sh85 : cfg.shared 85 = false := by decide
theorem sh86 : cfg.shared 86 = false := by decide
theorem sh87 : cfg.shared 87 = true := by decide
theorem sh88 : cfg.shared 88 = false := by decide
theorem sh89 : cfg.shared 89 = false := by decide
theorem sh90 : cfg.shared 90 = false := by decide
theorem sh91 : cfg.shared 91 = false := by decide
theorem sh92 : cfg.shared 92 = false := by decide
theorem sh93 : cfg.shared 93 = false := by decide
theorem sh94 : cfg.shared 94 = false := by decide
theorem sh95 : cfg.shared 95 = false := by decide
theorem sh96 : cfg.shared 96 = false := by decide
theorem sh97 : cfg.shared 97 = false := by decide
theorem sh98 : cfg.shared 98 = false := by decide
theorem sh99 : cfg.shared 99 = false := by decide
theorem sh100 : cfg.shared 100 = false := by decide
theorem sh101 : cfg.shared 101 = false := by decide
theorem sh102 : cfg.shared 102 = false := by decide
theorem sh103 : cfg.shared 103 = false := by decide
theorem sh104 : cfg.shared 104 = false := by decide
theorem sh105 : cfg.shared 105 = false := by decide
theorem sh106 : cfg.shared 106 = false := by decide
theorem cfg_ext (f : Nat) : cfg.ext f = none := rfl
theorem ag3 : aggT Tryz.prog 3 = some false := by kernel_rfl
theorem sz3 : szT Tryz.prog 3 = some 1 := by kernel_rfl
theorem by3 : byT Tryz.prog 3 = some 8 := by kernel_rfl
theorem ze3 : zeroT Tryz.prog 3 = some (.int .i64 0) := by kernel_rfl
theorem un3 : Tryz.prog.underlying 3 = some (.int .i64) := by kernel_rfl
theorem ag4 : aggT Tryz.prog 4 = some false := by kernel_rfl
theorem sz4 : szT Tryz.prog 4 = some 1 := by kernel_rfl
theorem by4 : byT Tryz.prog 4 = some 1 := by kernel_rfl
theorem ze4 : zeroT Tryz.prog 4 = some (.bool false) := by kernel_rfl
theorem un4 : Tryz.prog.underlying 4 = some .bool := by kernel_rfl
theorem ag5 : aggT Tryz.prog 5 = some false := by kernel_rfl
theorem sz5 : szT Tryz.prog 5 = some 1 := by kernel_rfl
theorem by5 : byT Tryz.prog 5 = some 1 := by kernel_rfl
theorem ze5 : zeroT Tryz.prog 5 = some (.int .u8 0) := by kernel_rfl
theorem un5 : Tryz.prog.underlying 5 = some (.int .u8) := by kernel_rfl
theorem ag9 : aggT Tryz.prog 9 = some false := by kernel_rfl
theorem sz9 : szT Tryz.prog 9 = some 1 := by kernel_rfl
theorem by9 : byT Tryz.prog 9 = some 16 := by kernel_rfl
theorem ze9 : zeroT Tryz.prog 9 = some (.str ByteArray.empty) := by kernel_rfl
theorem un9 : Tryz.prog.underlying 9 = some .string := by kernel_rfl
theorem ag23 : aggT Tryz.prog 23 = some false := by kernel_rfl
theorem sz23 : szT Tryz.prog 23 = some 1 := by kernel_rfl
theorem by23 : byT Tryz.prog 23 = some 24 := by kernel_rfl
theorem ze23 : zeroT Tryz.prog 23 = some (.snil) := by kernel_rfl
theorem un23 : Tryz.prog.underlying 23 = some (.slice 53) := by kernel_rfl
theorem el23 : elemT Tryz.prog 23 = some 53 := by kernel_rfl
theorem ag24 : aggT Tryz.prog 24 = some false := by kernel_rfl
theorem sz24 : szT Tryz.prog 24 = some 1 := by kernel_rfl
theorem by24 : byT Tryz.prog 24 = some 24 := by kernel_rfl
theorem ze24 : zeroT Tryz.prog 24 = some (.snil) := by kernel_rfl
theorem un24 : Tryz.prog.underlying 24 = some (.slice 27) := by kernel_rfl
theorem el24 : elemT Tryz.prog 24 = some 27 := by kernel_rfl
theorem ag25 : aggT Tryz.prog 25 = some false := by kernel_rfl
theorem sz25 : szT Tryz.prog 25 = some 1 := by kernel_rfl
theorem by25 : byT Tryz.prog 25 = some 24 := by kernel_rfl
theorem ze25 : zeroT Tryz.prog 25 = some (.snil) := by kernel_rfl
theorem un25 : Tryz.prog.underlying 25 = some (.slice 77) := by kernel_rfl
theorem el25 : elemT Tryz.prog 25 = some 77 := by kernel_rfl
theorem ag27 : aggT Tryz.prog 27 = some true := by kernel_rfl
theorem sz27 : szT Tryz.prog 27 = some 2 := by kernel_rfl
theorem by27 : byT Tryz.prog 27 = some 16 := by kernel_rfl
theorem ze27 : zeroT Tryz.prog 27 = some (.agg [.int .i64 0, .int .i64 0]) := by kernel_rfl
theorem ag29 : aggT Tryz.prog 29 = some true := by kernel_rfl
theorem sz29 : szT Tryz.prog 29 = some 3 := by kernel_rfl
theorem by29 : byT Tryz.prog 29 = some 24 := by kernel_rfl
theorem ze29 : zeroT Tryz.prog 29 = some (.agg [.int .i64 0, .int .i64 0, .int .i64 0]) := by kernel_rfl
theorem ag31 : aggT Tryz.prog 31 = some true := by kernel_rfl
theorem sz31 : szT Tryz.prog 31 = some 2 := by kernel_rfl
theorem by31 : byT Tryz.prog 31 = some 16 := by kernel_rfl
theorem ze31 : zeroT Tryz.prog 31 = some (.agg [.int .i64 0, .int .i64 0]) := by kernel_rfl
theorem ag33 : aggT Tryz.prog 33 = some true := by kernel_rfl
theorem sz33 : szT Tryz.prog 33 = some 16 := by kernel_rfl
theorem by33 : byT Tryz.prog 33 = some 176 := by kernel_rfl
theorem ze33 : zeroT Tryz.prog 33 = some (.agg [.int .i64 0, .int .i64 0, .snil, .snil, .snil, .int .i64 0, .int .i64 0, .int .i64 0, .int .i64 0, .int .i64 0, .int .i64 0, .int .i64 0, .int .i64 0, .int .i64 0, .int .i64 0, .int .i64 0]) := by kernel_rfl
theorem ag35 : aggT Tryz.prog 35 = some true := by kernel_rfl
theorem sz35 : szT Tryz.prog 35 = some 7 := by kernel_rfl
theorem by35 : byT Tryz.prog 35 = some 72 := by kernel_rfl
theorem ze35 : zeroT Tryz.prog 35 = some (.agg [.int .i64 0, .int .i64 0, .int .i64 0, .int .i64 0, .int .i64 0, .snil, .int .i64 0]) := by kernel_rfl
theorem ag40 : aggT Tryz.prog 40 = some true := by kernel_rfl
theorem sz40 : szT Tryz.prog 40 = some 5 := by kernel_rfl
theorem by40 : byT Tryz.prog 40 = some 56 := by kernel_rfl
theorem ze40 : zeroT Tryz.prog 40 = some (.agg [.int .i64 0, .int .i64 0, .int .i64 0, .int .i64 0, .snil]) := by kernel_rfl
theorem ag51 : aggT Tryz.prog 51 = some false := by kernel_rfl
theorem sz51 : szT Tryz.prog 51 = some 1 := by kernel_rfl
theorem by51 : byT Tryz.prog 51 = some 24 := by kernel_rfl
theorem ze51 : zeroT Tryz.prog 51 = some (.snil) := by kernel_rfl
theorem un51 : Tryz.prog.underlying 51 = some (.slice 58) := by kernel_rfl
theorem el51 : elemT Tryz.prog 51 = some 58 := by kernel_rfl
theorem ag53 : aggT Tryz.prog 53 = some true := by kernel_rfl
theorem sz53 : szT Tryz.prog 53 = some 4 := by kernel_rfl
theorem by53 : byT Tryz.prog 53 = some 48 := by kernel_rfl
theorem ze53 : zeroT Tryz.prog 53 = some (.agg [.int .i64 0, .int .i64 0, .int .i64 0, .snil]) := by kernel_rfl
theorem ag55 : aggT Tryz.prog 55 = some false := by kernel_rfl
theorem sz55 : szT Tryz.prog 55 = some 1 := by kernel_rfl
theorem by55 : byT Tryz.prog 55 = some 8 := by kernel_rfl
theorem ze55 : zeroT Tryz.prog 55 = some (.nil) := by kernel_rfl
theorem ag58 : aggT Tryz.prog 58 = some true := by kernel_rfl
theorem sz58 : szT Tryz.prog 58 = some 3 := by kernel_rfl
theorem by58 : byT Tryz.prog 58 = some 24 := by kernel_rfl
theorem ze58 : zeroT Tryz.prog 58 = some (.agg [.int .i64 0, .int .i64 0, .int .i64 0]) := by kernel_rfl
theorem ag60 : aggT Tryz.prog 60 = some true := by kernel_rfl
theorem sz60 : szT Tryz.prog 60 = some 25 := by kernel_rfl
theorem by60 : byT Tryz.prog 60 = some 280 := by kernel_rfl
theorem ze60 : zeroT Tryz.prog 60 = some (.agg [.int .i64 0, .int .i64 0, .snil, .snil, .snil, .int .i64 0, .int .i64 0, .int .i64 0, .int .i64 0, .int .i64 0, .int .i64 0, .int .i64 0, .int .i64 0, .int .i64 0, .int .i64 0, .int .i64 0, .snil, .int .i64 0, .int .i64 0, .int .i64 0, .int .i64 0, .int .i64 0, .int .i64 0, .int .i64 0, .snil]) := by kernel_rfl
theorem ag77 : aggT Tryz.prog 77 = some true := by kernel_rfl
theorem sz77 : szT Tryz.prog 77 = some 6 := by kernel_rfl
theorem by77 : byT Tryz.prog 77 = some 48 := by kernel_rfl
theorem ze77 : zeroT Tryz.prog 77 = some (.agg [.int .i64 0, .int .i64 0, .int .i64 0, .int .i64 0, .int .i64 0, .int .i64 0]) := by kernel_rfl
theorem ag87 : aggT Tryz.prog 87 = some false := by kernel_rfl
theorem sz87 : szT Tryz.prog 87 = some 1 := by kernel_rfl
theorem by87 : byT Tryz.prog 87 = some 8 := by kernel_rfl
theorem ze87 : zeroT Tryz.prog 87 = some (.int .i64 0) := by kernel_rfl
theorem un87 : Tryz.prog.underlying 87 = some (.int .i64) := by kernel_rfl
theorem ag106 : aggT Tryz.prog 106 = some false := by kernel_rfl
theorem sz106 : szT Tryz.prog 106 = some 1 := by kernel_rfl
theorem by106 : byT Tryz.prog 106 = some 24 := by kernel_rfl
theorem ze106 : zeroT Tryz.prog 106 = some (.snil) := by kernel_rfl
theorem un106 : Tryz.prog.underlying 106 = some (.slice 9) := by kernel_rfl
theorem el106 : elemT Tryz.prog 106 = some 9 := by kernel_rfl
theorem ag111 : aggT Tryz.prog 111 = some true := by kernel_rfl
theorem sz111 : szT Tryz.prog 111 = some 2 := by kernel_rfl
theorem by111 : byT Tryz.prog 111 = some 16 := by kernel_rfl
theorem ze111 : zeroT Tryz.prog 111 = some (.agg [.int .i64 0, .int .i64 0]) := by kernel_rfl
theorem ag115 : aggT Tryz.prog 115 = some true := by kernel_rfl
theorem sz115 : szT Tryz.prog 115 = some 4 := by kernel_rfl
theorem by115 : byT Tryz.prog 115 = some 40 := by kernel_rfl
theorem ze115 : zeroT Tryz.prog 115 = some (.agg [.str ByteArray.empty, .int .i64 0, .int .i64 0, .int .i64 0]) := by kernel_rfl
theorem ag120 : aggT Tryz.prog 120 = some false := by kernel_rfl
theorem sz120 : szT Tryz.prog 120 = some 1 := by kernel_rfl
theorem by120 : byT Tryz.prog 120 = some 16 := by kernel_rfl
theorem ze120 : zeroT Tryz.prog 120 = some (.cpx .f64 0 0) := by kernel_rfl
theorem ag123 : aggT Tryz.prog 123 = some false := by kernel_rfl
theorem sz123 : szT Tryz.prog 123 = some 1 := by kernel_rfl
theorem by123 : byT Tryz.prog 123 = some 8 := by kernel_rfl
theorem ze123 : zeroT Tryz.prog 123 = some (.flt .f64 0) := by kernel_rfl
theorem ag126 : aggT Tryz.prog 126 = some false := by kernel_rfl
theorem sz126 : szT Tryz.prog 126 = some 1 := by kernel_rfl
theorem by126 : byT Tryz.prog 126 = some 24 := by kernel_rfl
theorem ze126 : zeroT Tryz.prog 126 = some (.snil) := by kernel_rfl
theorem un126 : Tryz.prog.underlying 126 = some (.slice 3) := by kernel_rfl
theorem el126 : elemT Tryz.prog 126 = some 3 := by kernel_rfl
theorem ag128 : aggT Tryz.prog 128 = some true := by kernel_rfl
theorem sz128 : szT Tryz.prog 128 = some 68 := by kernel_rfl
theorem by128 : byT Tryz.prog 128 = some 680 := by kernel_rfl
theorem ze128 : zeroT Tryz.prog 128 = some (.agg [.str ByteArray.empty, .int .i64 0, .int .i64 0, .int .i64 0, .str ByteArray.empty, .int .i64 0, .int .i64 0, .int .i64 0, .str ByteArray.empty, .int .i64 0, .int .i64 0, .int .i64 0, .str ByteArray.empty, .int .i64 0, .int .i64 0, .int .i64 0, .str ByteArray.empty, .int .i64 0, .int .i64 0, .int .i64 0, .str ByteArray.empty, .int .i64 0, .int .i64 0, .int .i64 0, .str ByteArray.empty, .int .i64 0, .int .i64 0, .int .i64 0, .str ByteArray.empty, .int .i64 0, .int .i64 0, .int .i64 0, .str ByteArray.empty, .int .i64 0, .int .i64 0, .int .i64 0, .str ByteArray.empty, .int .i64 0, .int .i64 0, .int .i64 0, .str ByteArray.empty, .int .i64 0, .int .i64 0, .int .i64 0, .str ByteArray.empty, .int .i64 0, .int .i64 0, .int .i64 0, .str ByteArray.empty, .int .i64 0, .int .i64 0, .int .i64 0, .str ByteArray.empty, .int .i64 0, .int .i64 0, .int .i64 0, .str ByteArray.empty, .int .i64 0, .int .i64 0, .int .i64 0, .str ByteArray.empty, .int .i64 0, .int .i64 0, .int .i64 0, .str ByteArray.empty, .int .i64 0, .int .i64 0, .int .i64 0]) := by kernel_rfl
theorem un128 : Tryz.prog.underlying 128 = some (.array 17 115) := by kernel_rfl
theorem ag132 : aggT Tryz.prog 132 = some false := by kernel_rfl
theorem sz132 : szT Tryz.prog 132 = some 1 := by kernel_rfl
theorem by132 : byT Tryz.prog 132 = some 4 := by kernel_rfl
theorem ze132 : zeroT Tryz.prog 132 = some (.int .u32 0) := by kernel_rfl
theorem un132 : Tryz.prog.underlying 132 = some (.int .u32) := by kernel_rfl
theorem ag133 : aggT Tryz.prog 133 = some false := by kernel_rfl
theorem sz133 : szT Tryz.prog 133 = some 1 := by kernel_rfl
theorem by133 : byT Tryz.prog 133 = some 24 := by kernel_rfl
theorem ze133 : zeroT Tryz.prog 133 = some (.snil) := by kernel_rfl
theorem un133 : Tryz.prog.underlying 133 = some (.slice 5) := by kernel_rfl
theorem el133 : elemT Tryz.prog 133 = some 5 := by kernel_rfl
theorem fp27_0 : ∀ id ver i j, fieldAddrD Tryz.prog 27 0 (.ptr id ver i j) = some (.ptr id ver i (j + 0)) := fun id ver i j => fd_of (ty := 3) (by kernel_rfl) sz3 (by decide) _
theorem fq27_0 : ∀ z xs i j, fieldAddrD Tryz.prog 27 0 (.fptr z xs i j) = some (.fptr z xs i (j + 0)) := fun z xs i j => fd_of (ty := 3) (by kernel_rfl) sz3 (by decide) _
theorem fp27_1 : ∀ id ver i j, fieldAddrD Tryz.prog 27 1 (.ptr id ver i j) = some (.ptr id ver i (j + 1)) := fun id ver i j => fd_of (ty := 3) (by kernel_rfl) sz3 (by decide) _
theorem fq27_1 : ∀ z xs i j, fieldAddrD Tryz.prog 27 1 (.fptr z xs i j) = some (.fptr z xs i (j + 1)) := fun z xs i j => fd_of (ty := 3) (by kernel_rfl) sz3 (by decide) _
theorem fp29_0 : ∀ id ver i j, fieldAddrD Tryz.prog 29 0 (.ptr id ver i j) = some (.ptr id ver i (j + 0)) := fun id ver i j => fd_of (ty := 3) (by kernel_rfl) sz3 (by decide) _
theorem fq29_0 : ∀ z xs i j, fieldAddrD Tryz.prog 29 0 (.fptr z xs i j) = some (.fptr z xs i (j + 0)) := fun z xs i j => fd_of (ty := 3) (by kernel_rfl) sz3 (by decide) _
theorem fp29_1 : ∀ id ver i j, fieldAddrD Tryz.prog 29 1 (.ptr id ver i j) = some (.ptr id ver i (j + 1)) := fun id ver i j => fd_of (ty := 27) (by kernel_rfl) sz27 (by decide) _
theorem fq29_1 : ∀ z xs i j, fieldAddrD Tryz.prog 29 1 (.fptr z xs i j) = some (.fptr z xs i (j + 1)) := fun z xs i j => fd_of (ty := 27) (by kernel_rfl) sz27 (by decide) _
theorem fp33_0 : ∀ id ver i j, fieldAddrD Tryz.prog 33 0 (.ptr id ver i j) = some (.ptr id ver i (j + 0)) := fun id ver i j => fd_of (ty := 3) (by kernel_rfl) sz3 (by decide) _
theorem fq33_0 : ∀ z xs i j, fieldAddrD Tryz.prog 33 0 (.fptr z xs i j) = some (.fptr z xs i (j + 0)) := fun z xs i j => fd_of (ty := 3) (by kernel_rfl) sz3 (by decide) _
theorem fp33_1 : ∀ id ver i j, fieldAddrD Tryz.prog 33 1 (.ptr id ver i j) = some (.ptr id ver i (j + 1)) := fun id ver i j => fd_of (ty := 3) (by kernel_rfl) sz3 (by decide) _
theorem fq33_1 : ∀ z xs i j, fieldAddrD Tryz.prog 33 1 (.fptr z xs i j) = some (.fptr z xs i (j + 1)) := fun z xs i j => fd_of (ty := 3) (by kernel_rfl) sz3 (by decide) _
theorem fp33_2 : ∀ id ver i j, fieldAddrD Tryz.prog 33 2 (.ptr id ver i j) = some (.ptr id ver i (j + 2)) := fun id ver i j => fd_of (ty := 24) (by kernel_rfl) sz24 (by decide) _
theorem fq33_2 : ∀ z xs i j, fieldAddrD Tryz.prog 33 2 (.fptr z xs i j) = some (.fptr z xs i (j + 2)) := fun z xs i j => fd_of (ty := 24) (by kernel_rfl) sz24 (by decide) _
theorem fp33_3 : ∀ id ver i j, fieldAddrD Tryz.prog 33 3 (.ptr id ver i j) = some (.ptr id ver i (j + 3)) := fun id ver i j => fd_of (ty := 24) (by kernel_rfl) sz24 (by decide) _
theorem fq33_3 : ∀ z xs i j, fieldAddrD Tryz.prog 33 3 (.fptr z xs i j) = some (.fptr z xs i (j + 3)) := fun z xs i j => fd_of (ty := 24) (by kernel_rfl) sz24 (by decide) _
theorem fp33_4 : ∀ id ver i j, fieldAddrD Tryz.prog 33 4 (.ptr id ver i j) = some (.ptr id ver i (j + 4)) := fun id ver i j => fd_of (ty := 25) (by kernel_rfl) sz25 (by decide) _
theorem fq33_4 : ∀ z xs i j, fieldAddrD Tryz.prog 33 4 (.fptr z xs i j) = some (.fptr z xs i (j + 4)) := fun z xs i j => fd_of (ty := 25) (by kernel_rfl) sz25 (by decide) _
theorem fp33_5 : ∀ id ver i j, fieldAddrD Tryz.prog 33 5 (.ptr id ver i j) = some (.ptr id ver i (j + 5)) := fun id ver i j => fd_of (ty := 3) (by kernel_rfl) sz3 (by decide) _
theorem fq33_5 : ∀ z xs i j, fieldAddrD Tryz.prog 33 5 (.fptr z xs i j) = some (.fptr z xs i (j + 5)) := fun z xs i j => fd_of (ty := 3) (by kernel_rfl) sz3 (by decide) _
theorem fp33_6 : ∀ id ver i j, fieldAddrD Tryz.prog 33 6 (.ptr id ver i j) = some (.ptr id ver i (j + 6)) := fun id ver i j => fd_of (ty := 3) (by kernel_rfl) sz3 (by decide) _
theorem fq33_6 : ∀ z xs i j, fieldAddrD Tryz.prog 33 6 (.fptr z xs i j) = some (.fptr z xs i (j + 6)) := fun z xs i j => fd_of (ty := 3) (by kernel_rfl) sz3 (by decide) _
theorem fp33_7 : ∀ id ver i j, fieldAddrD Tryz.prog 33 7 (.ptr id ver i j) = some (.ptr id ver i (j + 7)) := fun id ver i j => fd_of (ty := 3) (by kernel_rfl) sz3 (by decide) _
theorem fq33_7 : ∀ z xs i j, fieldAddrD Tryz.prog 33 7 (.fptr z xs i j) = some (.fptr z xs i (j + 7)) := fun z xs i j => fd_of (ty := 3) (by kernel_rfl) sz3 (by decide) _
theorem fp33_8 : ∀ id ver i j, fieldAddrD Tryz.prog 33 8 (.ptr id ver i j) = some (.ptr id ver i (j + 8)) := fun id ver i j => fd_of (ty := 3) (by kernel_rfl) sz3 (by decide) _
theorem fq33_8 : ∀ z xs i j, fieldAddrD Tryz.prog 33 8 (.fptr z xs i j) = some (.fptr z xs i (j + 8)) := fun z xs i j => fd_of (ty := 3) (by kernel_rfl) sz3 (by decide) _
theorem fp33_9 : ∀ id ver i j, fieldAddrD Tryz.prog 33 9 (.ptr id ver i j) = some (.ptr id ver i (j + 9)) := fun id ver i j => fd_of (ty := 3) (by kernel_rfl) sz3 (by decide) _
theorem fq33_9 : ∀ z xs i j, fieldAddrD Tryz.prog 33 9 (.fptr z xs i j) = some (.fptr z xs i (j + 9)) := fun z xs i j => fd_of (ty := 3) (by kernel_rfl) sz3 (by decide) _
theorem fp33_10 : ∀ id ver i j, fieldAddrD Tryz.prog 33 10 (.ptr id ver i j) = some (.ptr id ver i (j + 10)) := fun id ver i j => fd_of (ty := 29) (by kernel_rfl) sz29 (by decide) _
theorem fq33_10 : ∀ z xs i j, fieldAddrD Tryz.prog 33 10 (.fptr z xs i j) = some (.fptr z xs i (j + 10)) := fun z xs i j => fd_of (ty := 29) (by kernel_rfl) sz29 (by decide) _
theorem fp33_11 : ∀ id ver i j, fieldAddrD Tryz.prog 33 11 (.ptr id ver i j) = some (.ptr id ver i (j + 13)) := fun id ver i j => fd_of (ty := 31) (by kernel_rfl) sz31 (by decide) _
theorem fq33_11 : ∀ z xs i j, fieldAddrD Tryz.prog 33 11 (.fptr z xs i j) = some (.fptr z xs i (j + 13)) := fun z xs i j => fd_of (ty := 31) (by kernel_rfl) sz31 (by decide) _
theorem fp33_12 : ∀ id ver i j, fieldAddrD Tryz.prog 33 12 (.ptr id ver i j) = some (.ptr id ver i (j + 15)) := fun id ver i j => fd_of (ty := 3) (by kernel_rfl) sz3 (by decide) _
theorem fq33_12 : ∀ z xs i j, fieldAddrD Tryz.prog 33 12 (.fptr z xs i j) = some (.fptr z xs i (j + 15)) := fun z xs i j => fd_of (ty := 3) (by kernel_rfl) sz3 (by decide) _
theorem fp35_0 : ∀ id ver i j, fieldAddrD Tryz.prog 35 0 (.ptr id ver i j) = some (.ptr id ver i (j + 0)) := fun id ver i j => fd_of (ty := 3) (by kernel_rfl) sz3 (by decide) _
theorem fq35_0 : ∀ z xs i j, fieldAddrD Tryz.prog 35 0 (.fptr z xs i j) = some (.fptr z xs i (j + 0)) := fun z xs i j => fd_of (ty := 3) (by kernel_rfl) sz3 (by decide) _
theorem fp35_1 : ∀ id ver i j, fieldAddrD Tryz.prog 35 1 (.ptr id ver i j) = some (.ptr id ver i (j + 1)) := fun id ver i j => fd_of (ty := 29) (by kernel_rfl) sz29 (by decide) _
theorem fq35_1 : ∀ z xs i j, fieldAddrD Tryz.prog 35 1 (.fptr z xs i j) = some (.fptr z xs i (j + 1)) := fun z xs i j => fd_of (ty := 29) (by kernel_rfl) sz29 (by decide) _
theorem fp35_2 : ∀ id ver i j, fieldAddrD Tryz.prog 35 2 (.ptr id ver i j) = some (.ptr id ver i (j + 4)) := fun id ver i j => fd_of (ty := 3) (by kernel_rfl) sz3 (by decide) _
theorem fq35_2 : ∀ z xs i j, fieldAddrD Tryz.prog 35 2 (.fptr z xs i j) = some (.fptr z xs i (j + 4)) := fun z xs i j => fd_of (ty := 3) (by kernel_rfl) sz3 (by decide) _
theorem fp35_3 : ∀ id ver i j, fieldAddrD Tryz.prog 35 3 (.ptr id ver i j) = some (.ptr id ver i (j + 5)) := fun id ver i j => fd_of (ty := 24) (by kernel_rfl) sz24 (by decide) _
theorem fq35_3 : ∀ z xs i j, fieldAddrD Tryz.prog 35 3 (.fptr z xs i j) = some (.fptr z xs i (j + 5)) := fun z xs i j => fd_of (ty := 24) (by kernel_rfl) sz24 (by decide) _
theorem fp35_4 : ∀ id ver i j, fieldAddrD Tryz.prog 35 4 (.ptr id ver i j) = some (.ptr id ver i (j + 6)) := fun id ver i j => fd_of (ty := 3) (by kernel_rfl) sz3 (by decide) _
theorem fq35_4 : ∀ z xs i j, fieldAddrD Tryz.prog 35 4 (.fptr z xs i j) = some (.fptr z xs i (j + 6)) := fun z xs i j => fd_of (ty := 3) (by kernel_rfl) sz3 (by decide) _
theorem fp40_0 : ∀ id ver i j, fieldAddrD Tryz.prog 40 0 (.ptr id ver i j) = some (.ptr id ver i (j + 0)) := fun id ver i j => fd_of (ty := 3) (by kernel_rfl) sz3 (by decide) _
theorem fq40_0 : ∀ z xs i j, fieldAddrD Tryz.prog 40 0 (.fptr z xs i j) = some (.fptr z xs i (j + 0)) := fun z xs i j => fd_of (ty := 3) (by kernel_rfl) sz3 (by decide) _
theorem fp40_1 : ∀ id ver i j, fieldAddrD Tryz.prog 40 1 (.ptr id ver i j) = some (.ptr id ver i (j + 1)) := fun id ver i j => fd_of (ty := 3) (by kernel_rfl) sz3 (by decide) _
theorem fq40_1 : ∀ z xs i j, fieldAddrD Tryz.prog 40 1 (.fptr z xs i j) = some (.fptr z xs i (j + 1)) := fun z xs i j => fd_of (ty := 3) (by kernel_rfl) sz3 (by decide) _
theorem fp40_2 : ∀ id ver i j, fieldAddrD Tryz.prog 40 2 (.ptr id ver i j) = some (.ptr id ver i (j + 2)) := fun id ver i j => fd_of (ty := 3) (by kernel_rfl) sz3 (by decide) _
theorem fq40_2 : ∀ z xs i j, fieldAddrD Tryz.prog 40 2 (.fptr z xs i j) = some (.fptr z xs i (j + 2)) := fun z xs i j => fd_of (ty := 3) (by kernel_rfl) sz3 (by decide) _
theorem fp40_3 : ∀ id ver i j, fieldAddrD Tryz.prog 40 3 (.ptr id ver i j) = some (.ptr id ver i (j + 3)) := fun id ver i j => fd_of (ty := 3) (by kernel_rfl) sz3 (by decide) _
theorem fq40_3 : ∀ z xs i j, fieldAddrD Tryz.prog 40 3 (.fptr z xs i j) = some (.fptr z xs i (j + 3)) := fun z xs i j => fd_of (ty := 3) (by kernel_rfl) sz3 (by decide) _
theorem fp40_4 : ∀ id ver i j, fieldAddrD Tryz.prog 40 4 (.ptr id ver i j) = some (.ptr id ver i (j + 4)) := fun id ver i j => fd_of (ty := 24) (by kernel_rfl) sz24 (by decide) _
theorem fq40_4 : ∀ z xs i j, fieldAddrD Tryz.prog 40 4 (.fptr z xs i j) = some (.fptr z xs i (j + 4)) := fun z xs i j => fd_of (ty := 24) (by kernel_rfl) sz24 (by decide) _
theorem fp53_0 : ∀ id ver i j, fieldAddrD Tryz.prog 53 0 (.ptr id ver i j) = some (.ptr id ver i (j + 0)) := fun id ver i j => fd_of (ty := 3) (by kernel_rfl) sz3 (by decide) _
theorem fq53_0 : ∀ z xs i j, fieldAddrD Tryz.prog 53 0 (.fptr z xs i j) = some (.fptr z xs i (j + 0)) := fun z xs i j => fd_of (ty := 3) (by kernel_rfl) sz3 (by decide) _
theorem fp53_1 : ∀ id ver i j, fieldAddrD Tryz.prog 53 1 (.ptr id ver i j) = some (.ptr id ver i (j + 1)) := fun id ver i j => fd_of (ty := 3) (by kernel_rfl) sz3 (by decide) _
theorem fq53_1 : ∀ z xs i j, fieldAddrD Tryz.prog 53 1 (.fptr z xs i j) = some (.fptr z xs i (j + 1)) := fun z xs i j => fd_of (ty := 3) (by kernel_rfl) sz3 (by decide) _
theorem fp53_2 : ∀ id ver i j, fieldAddrD Tryz.prog 53 2 (.ptr id ver i j) = some (.ptr id ver i (j + 2)) := fun id ver i j => fd_of (ty := 3) (by kernel_rfl) sz3 (by decide) _
theorem fq53_2 : ∀ z xs i j, fieldAddrD Tryz.prog 53 2 (.fptr z xs i j) = some (.fptr z xs i (j + 2)) := fun z xs i j => fd_of (ty := 3) (by kernel_rfl) sz3 (by decide) _
theorem fp53_3 : ∀ id ver i j, fieldAddrD Tryz.prog 53 3 (.ptr id ver i j) = some (.ptr id ver i (j + 3)) := fun id ver i j => fd_of (ty := 51) (by kernel_rfl) sz51 (by decide) _
theorem fq53_3 : ∀ z xs i j, fieldAddrD Tryz.prog 53 3 (.fptr z xs i j) = some (.fptr z xs i (j + 3)) := fun z xs i j => fd_of (ty := 51) (by kernel_rfl) sz51 (by decide) _
theorem fp58_0 : ∀ id ver i j, fieldAddrD Tryz.prog 58 0 (.ptr id ver i j) = some (.ptr id ver i (j + 0)) := fun id ver i j => fd_of (ty := 3) (by kernel_rfl) sz3 (by decide) _
theorem fq58_0 : ∀ z xs i j, fieldAddrD Tryz.prog 58 0 (.fptr z xs i j) = some (.fptr z xs i (j + 0)) := fun z xs i j => fd_of (ty := 3) (by kernel_rfl) sz3 (by decide) _
theorem fp58_1 : ∀ id ver i j, fieldAddrD Tryz.prog 58 1 (.ptr id ver i j) = some (.ptr id ver i (j + 1)) := fun id ver i j => fd_of (ty := 3) (by kernel_rfl) sz3 (by decide) _
theorem fq58_1 : ∀ z xs i j, fieldAddrD Tryz.prog 58 1 (.fptr z xs i j) = some (.fptr z xs i (j + 1)) := fun z xs i j => fd_of (ty := 3) (by kernel_rfl) sz3 (by decide) _
theorem fp58_2 : ∀ id ver i j, fieldAddrD Tryz.prog 58 2 (.ptr id ver i j) = some (.ptr id ver i (j + 2)) := fun id ver i j => fd_of (ty := 3) (by kernel_rfl) sz3 (by decide) _
theorem fq58_2 : ∀ z xs i j, fieldAddrD Tryz.prog 58 2 (.fptr z xs i j) = some (.fptr z xs i (j + 2)) := fun z xs i j => fd_of (ty := 3) (by kernel_rfl) sz3 (by decide) _
theorem fp60_0 : ∀ id ver i j, fieldAddrD Tryz.prog 60 0 (.ptr id ver i j) = some (.ptr id ver i (j + 0)) := fun id ver i j => fd_of (ty := 33) (by kernel_rfl) sz33 (by decide) _
theorem fq60_0 : ∀ z xs i j, fieldAddrD Tryz.prog 60 0 (.fptr z xs i j) = some (.fptr z xs i (j + 0)) := fun z xs i j => fd_of (ty := 33) (by kernel_rfl) sz33 (by decide) _
theorem fp60_1 : ∀ id ver i j, fieldAddrD Tryz.prog 60 1 (.ptr id ver i j) = some (.ptr id ver i (j + 16)) := fun id ver i j => fd_of (ty := 23) (by kernel_rfl) sz23 (by decide) _
theorem fq60_1 : ∀ z xs i j, fieldAddrD Tryz.prog 60 1 (.fptr z xs i j) = some (.fptr z xs i (j + 16)) := fun z xs i j => fd_of (ty := 23) (by kernel_rfl) sz23 (by decide) _
theorem fp60_2 : ∀ id ver i j, fieldAddrD Tryz.prog 60 2 (.ptr id ver i j) = some (.ptr id ver i (j + 17)) := fun id ver i j => fd_of (ty := 58) (by kernel_rfl) sz58 (by decide) _
theorem fq60_2 : ∀ z xs i j, fieldAddrD Tryz.prog 60 2 (.fptr z xs i j) = some (.fptr z xs i (j + 17)) := fun z xs i j => fd_of (ty := 58) (by kernel_rfl) sz58 (by decide) _
theorem fp60_3 : ∀ id ver i j, fieldAddrD Tryz.prog 60 3 (.ptr id ver i j) = some (.ptr id ver i (j + 20)) := fun id ver i j => fd_of (ty := 40) (by kernel_rfl) sz40 (by decide) _
theorem fq60_3 : ∀ z xs i j, fieldAddrD Tryz.prog 60 3 (.fptr z xs i j) = some (.fptr z xs i (j + 20)) := fun z xs i j => fd_of (ty := 40) (by kernel_rfl) sz40 (by decide) _
theorem fp77_0 : ∀ id ver i j, fieldAddrD Tryz.prog 77 0 (.ptr id ver i j) = some (.ptr id ver i (j + 0)) := fun id ver i j => fd_of (ty := 3) (by kernel_rfl) sz3 (by decide) _
theorem fq77_0 : ∀ z xs i j, fieldAddrD Tryz.prog 77 0 (.fptr z xs i j) = some (.fptr z xs i (j + 0)) := fun z xs i j => fd_of (ty := 3) (by kernel_rfl) sz3 (by decide) _
theorem fp77_2 : ∀ id ver i j, fieldAddrD Tryz.prog 77 2 (.ptr id ver i j) = some (.ptr id ver i (j + 3)) := fun id ver i j => fd_of (ty := 29) (by kernel_rfl) sz29 (by decide) _
theorem fq77_2 : ∀ z xs i j, fieldAddrD Tryz.prog 77 2 (.fptr z xs i j) = some (.fptr z xs i (j + 3)) := fun z xs i j => fd_of (ty := 29) (by kernel_rfl) sz29 (by decide) _
theorem fp111_0 : ∀ id ver i j, fieldAddrD Tryz.prog 111 0 (.ptr id ver i j) = some (.ptr id ver i (j + 0)) := fun id ver i j => fd_of (ty := 3) (by kernel_rfl) sz3 (by decide) _
theorem fq111_0 : ∀ z xs i j, fieldAddrD Tryz.prog 111 0 (.fptr z xs i j) = some (.fptr z xs i (j + 0)) := fun z xs i j => fd_of (ty := 3) (by kernel_rfl) sz3 (by decide) _
theorem fp111_1 : ∀ id ver i j, fieldAddrD Tryz.prog 111 1 (.ptr id ver i j) = some (.ptr id ver i (j + 1)) := fun id ver i j => fd_of (ty := 3) (by kernel_rfl) sz3 (by decide) _
theorem fq111_1 : ∀ z xs i j, fieldAddrD Tryz.prog 111 1 (.fptr z xs i j) = some (.fptr z xs i (j + 1)) := fun z xs i j => fd_of (ty := 3) (by kernel_rfl) sz3 (by decide) _
theorem fp115_2 : ∀ id ver i j, fieldAddrD Tryz.prog 115 2 (.ptr id ver i j) = some (.ptr id ver i (j + 2)) := fun id ver i j => fd_of (ty := 3) (by kernel_rfl) sz3 (by decide) _
theorem fq115_2 : ∀ z xs i j, fieldAddrD Tryz.prog 115 2 (.fptr z xs i j) = some (.fptr z xs i (j + 2)) := fun z xs i j => fd_of (ty := 3) (by kernel_rfl) sz3 (by decide) _
theorem fp115_3 : ∀ id ver i j, fieldAddrD Tryz.prog 115 3 (.ptr id ver i j) = some (.ptr id ver i (j + 3)) := fun id ver i j => fd_of (ty := 3) (by kernel_rfl) sz3 (by decide) _
theorem fq115_3 : ∀ z xs i j, fieldAddrD Tryz.prog 115 3 (.fptr z xs i j) = some (.fptr z xs i (j + 3)) := fun z xs i j => fd_of (ty := 3) (by kernel_rfl) sz3 (by decide) _
theorem bu27 : ∀ ps, buildD Tryz.prog 27 ps = (bldD Tryz.prog 27 [.int .i64 0, .int .i64 0] ps).map .agg := buildD_eq ze27 (by kernel_rfl)
theorem bc27_0 : ∀ cs v ps, bldD Tryz.prog 27 cs ((0, v) :: ps) = if v.cells.length = 1 ∧ 0 + 1 ≤ cs.length ∧ v.cells.all D.one = true then bldD Tryz.prog 27 (cs.take 0 ++ v.cells ++ cs.drop (0 + 1)) ps else none := bld_cons (ty := 3) (by kernel_rfl) sz3
theorem bc27_1 : ∀ cs v ps, bldD Tryz.prog 27 cs ((1, v) :: ps) = if v.cells.length = 1 ∧ 1 + 1 ≤ cs.length ∧ v.cells.all D.one = true then bldD Tryz.prog 27 (cs.take 1 ++ v.cells ++ cs.drop (1 + 1)) ps else none := bld_cons (ty := 3) (by kernel_rfl) sz3
theorem bu29 : ∀ ps, buildD Tryz.prog 29 ps = (bldD Tryz.prog 29 [.int .i64 0, .int .i64 0, .int .i64 0] ps).map .agg := buildD_eq ze29 (by kernel_rfl)
theorem bc29_0 : ∀ cs v ps, bldD Tryz.prog 29 cs ((0, v) :: ps) = if v.cells.length = 1 ∧ 0 + 1 ≤ cs.length ∧ v.cells.all D.one = true then bldD Tryz.prog 29 (cs.take 0 ++ v.cells ++ cs.drop (0 + 1)) ps else none := bld_cons (ty := 3) (by kernel_rfl) sz3
theorem bc29_1 : ∀ cs v ps, bldD Tryz.prog 29 cs ((1, v) :: ps) = if v.cells.length = 2 ∧ 1 + 2 ≤ cs.length ∧ v.cells.all D.one = true then bldD Tryz.prog 29 (cs.take 1 ++ v.cells ++ cs.drop (1 + 2)) ps else none := bld_cons (ty := 27) (by kernel_rfl) sz27
theorem bu31 : ∀ ps, buildD Tryz.prog 31 ps = (bldD Tryz.prog 31 [.int .i64 0, .int .i64 0] ps).map .agg := buildD_eq ze31 (by kernel_rfl)
theorem bc31_0 : ∀ cs v ps, bldD Tryz.prog 31 cs ((0, v) :: ps) = if v.cells.length = 1 ∧ 0 + 1 ≤ cs.length ∧ v.cells.all D.one = true then bldD Tryz.prog 31 (cs.take 0 ++ v.cells ++ cs.drop (0 + 1)) ps else none := bld_cons (ty := 3) (by kernel_rfl) sz3
theorem bu33 : ∀ ps, buildD Tryz.prog 33 ps = (bldD Tryz.prog 33 [.int .i64 0, .int .i64 0, .snil, .snil, .snil, .int .i64 0, .int .i64 0, .int .i64 0, .int .i64 0, .int .i64 0, .int .i64 0, .int .i64 0, .int .i64 0, .int .i64 0, .int .i64 0, .int .i64 0] ps).map .agg := buildD_eq ze33 (by kernel_rfl)
theorem bc33_0 : ∀ cs v ps, bldD Tryz.prog 33 cs ((0, v) :: ps) = if v.cells.length = 1 ∧ 0 + 1 ≤ cs.length ∧ v.cells.all D.one = true then bldD Tryz.prog 33 (cs.take 0 ++ v.cells ++ cs.drop (0 + 1)) ps else none := bld_cons (ty := 3) (by kernel_rfl) sz3
theorem bc33_3 : ∀ cs v ps, bldD Tryz.prog 33 cs ((3, v) :: ps) = if v.cells.length = 1 ∧ 3 + 1 ≤ cs.length ∧ v.cells.all D.one = true then bldD Tryz.prog 33 (cs.take 3 ++ v.cells ++ cs.drop (3 + 1)) ps else none := bld_cons (ty := 24) (by kernel_rfl) sz24
theorem bc33_4 : ∀ cs v ps, bldD Tryz.prog 33 cs ((4, v) :: ps) = if v.cells.length = 1 ∧ 4 + 1 ≤ cs.length ∧ v.cells.all D.one = true then bldD Tryz.prog 33 (cs.take 4 ++ v.cells ++ cs.drop (4 + 1)) ps else none := bld_cons (ty := 25) (by kernel_rfl) sz25
theorem bc33_5 : ∀ cs v ps, bldD Tryz.prog 33 cs ((5, v) :: ps) = if v.cells.length = 1 ∧ 5 + 1 ≤ cs.length ∧ v.cells.all D.one = true then bldD Tryz.prog 33 (cs.take 5 ++ v.cells ++ cs.drop (5 + 1)) ps else none := bld_cons (ty := 3) (by kernel_rfl) sz3
theorem bc33_11 : ∀ cs v ps, bldD Tryz.prog 33 cs ((11, v) :: ps) = if v.cells.length = 2 ∧ 13 + 2 ≤ cs.length ∧ v.cells.all D.one = true then bldD Tryz.prog 33 (cs.take 13 ++ v.cells ++ cs.drop (13 + 2)) ps else none := bld_cons (ty := 31) (by kernel_rfl) sz31
theorem bu40 : ∀ ps, buildD Tryz.prog 40 ps = (bldD Tryz.prog 40 [.int .i64 0, .int .i64 0, .int .i64 0, .int .i64 0, .snil] ps).map .agg := buildD_eq ze40 (by kernel_rfl)
theorem bc40_0 : ∀ cs v ps, bldD Tryz.prog 40 cs ((0, v) :: ps) = if v.cells.length = 1 ∧ 0 + 1 ≤ cs.length ∧ v.cells.all D.one = true then bldD Tryz.prog 40 (cs.take 0 ++ v.cells ++ cs.drop (0 + 1)) ps else none := bld_cons (ty := 3) (by kernel_rfl) sz3
theorem bc40_1 : ∀ cs v ps, bldD Tryz.prog 40 cs ((1, v) :: ps) = if v.cells.length = 1 ∧ 1 + 1 ≤ cs.length ∧ v.cells.all D.one = true then bldD Tryz.prog 40 (cs.take 1 ++ v.cells ++ cs.drop (1 + 1)) ps else none := bld_cons (ty := 3) (by kernel_rfl) sz3
theorem bc40_2 : ∀ cs v ps, bldD Tryz.prog 40 cs ((2, v) :: ps) = if v.cells.length = 1 ∧ 2 + 1 ≤ cs.length ∧ v.cells.all D.one = true then bldD Tryz.prog 40 (cs.take 2 ++ v.cells ++ cs.drop (2 + 1)) ps else none := bld_cons (ty := 3) (by kernel_rfl) sz3
theorem bc40_3 : ∀ cs v ps, bldD Tryz.prog 40 cs ((3, v) :: ps) = if v.cells.length = 1 ∧ 3 + 1 ≤ cs.length ∧ v.cells.all D.one = true then bldD Tryz.prog 40 (cs.take 3 ++ v.cells ++ cs.drop (3 + 1)) ps else none := bld_cons (ty := 3) (by kernel_rfl) sz3
theorem bc40_4 : ∀ cs v ps, bldD Tryz.prog 40 cs ((4, v) :: ps) = if v.cells.length = 1 ∧ 4 + 1 ≤ cs.length ∧ v.cells.all D.one = true then bldD Tryz.prog 40 (cs.take 4 ++ v.cells ++ cs.drop (4 + 1)) ps else none := bld_cons (ty := 24) (by kernel_rfl) sz24
theorem bu53 : ∀ ps, buildD Tryz.prog 53 ps = (bldD Tryz.prog 53 [.int .i64 0, .int .i64 0, .int .i64 0, .snil] ps).map .agg := buildD_eq ze53 (by kernel_rfl)
theorem bc53_0 : ∀ cs v ps, bldD Tryz.prog 53 cs ((0, v) :: ps) = if v.cells.length = 1 ∧ 0 + 1 ≤ cs.length ∧ v.cells.all D.one = true then bldD Tryz.prog 53 (cs.take 0 ++ v.cells ++ cs.drop (0 + 1)) ps else none := bld_cons (ty := 3) (by kernel_rfl) sz3
theorem bc53_1 : ∀ cs v ps, bldD Tryz.prog 53 cs ((1, v) :: ps) = if v.cells.length = 1 ∧ 1 + 1 ≤ cs.length ∧ v.cells.all D.one = true then bldD Tryz.prog 53 (cs.take 1 ++ v.cells ++ cs.drop (1 + 1)) ps else none := bld_cons (ty := 3) (by kernel_rfl) sz3
theorem bc53_2 : ∀ cs v ps, bldD Tryz.prog 53 cs ((2, v) :: ps) = if v.cells.length = 1 ∧ 2 + 1 ≤ cs.length ∧ v.cells.all D.one = true then bldD Tryz.prog 53 (cs.take 2 ++ v.cells ++ cs.drop (2 + 1)) ps else none := bld_cons (ty := 3) (by kernel_rfl) sz3
theorem bu58 : ∀ ps, buildD Tryz.prog 58 ps = (bldD Tryz.prog 58 [.int .i64 0, .int .i64 0, .int .i64 0] ps).map .agg := buildD_eq ze58 (by kernel_rfl)
theorem bc58_0 : ∀ cs v ps, bldD Tryz.prog 58 cs ((0, v) :: ps) = if v.cells.length = 1 ∧ 0 + 1 ≤ cs.length ∧ v.cells.all D.one = true then bldD Tryz.prog 58 (cs.take 0 ++ v.cells ++ cs.drop (0 + 1)) ps else none := bld_cons (ty := 3) (by kernel_rfl) sz3
theorem bc58_1 : ∀ cs v ps, bldD Tryz.prog 58 cs ((1, v) :: ps) = if v.cells.length = 1 ∧ 1 + 1 ≤ cs.length ∧ v.cells.all D.one = true then bldD Tryz.prog 58 (cs.take 1 ++ v.cells ++ cs.drop (1 + 1)) ps else none := bld_cons (ty := 3) (by kernel_rfl) sz3
theorem bc58_2 : ∀ cs v ps, bldD Tryz.prog 58 cs ((2, v) :: ps) = if v.cells.length = 1 ∧ 2 + 1 ≤ cs.length ∧ v.cells.all D.one = true then bldD Tryz.prog 58 (cs.take 2 ++ v.cells ++ cs.drop (2 + 1)) ps else none := bld_cons (ty := 3) (by kernel_rfl) sz3
theorem bu60 : ∀ ps, buildD Tryz.prog 60 ps = (bldD Tryz.prog 60 [.int .i64 0, .int .i64 0, .snil, .snil, .snil, .int .i64 0, .int .i64 0, .int .i64 0, .int .i64 0, .int .i64 0, .int .i64 0, .int .i64 0, .int .i64 0, .int .i64 0, .int .i64 0, .int .i64 0, .snil, .int .i64 0, .int .i64 0, .int .i64 0, .int .i64 0, .int .i64 0, .int .i64 0, .int .i64 0, .snil] ps).map .agg := buildD_eq ze60 (by kernel_rfl)
theorem bc60_0 : ∀ cs v ps, bldD Tryz.prog 60 cs ((0, v) :: ps) = if v.cells.length = 16 ∧ 0 + 16 ≤ cs.length ∧ v.cells.all D.one = true then bldD Tryz.prog 60 (cs.take 0 ++ v.cells ++ cs.drop (0 + 16)) ps else none := bld_cons (ty := 33) (by kernel_rfl) sz33
theorem bc60_1 : ∀ cs v ps, bldD Tryz.prog 60 cs ((1, v) :: ps) = if v.cells.length = 1 ∧ 16 + 1 ≤ cs.length ∧ v.cells.all D.one = true then bldD Tryz.prog 60 (cs.take 16 ++ v.cells ++ cs.drop (16 + 1)) ps else none := bld_cons (ty := 23) (by kernel_rfl) sz23
theorem bc60_3 : ∀ cs v ps, bldD Tryz.prog 60 cs ((3, v) :: ps) = if v.cells.length = 5 ∧ 20 + 5 ≤ cs.length ∧ v.cells.all D.one = true then bldD Tryz.prog 60 (cs.take 20 ++ v.cells ++ cs.drop (20 + 5)) ps else none := bld_cons (ty := 40) (by kernel_rfl) sz40
theorem bu77 : ∀ ps, buildD Tryz.prog 77 ps = (bldD Tryz.prog 77 [.int .i64 0, .int .i64 0, .int .i64 0, .int .i64 0, .int .i64 0, .int .i64 0] ps).map .agg := buildD_eq ze77 (by kernel_rfl)
theorem bc77_0 : ∀ cs v ps, bldD Tryz.prog 77 cs ((0, v) :: ps) = if v.cells.length = 1 ∧ 0 + 1 ≤ cs.length ∧ v.cells.all D.one = true then bldD Tryz.prog 77 (cs.take 0 ++ v.cells ++ cs.drop (0 + 1)) ps else none := bld_cons (ty := 3) (by kernel_rfl) sz3
theorem bc77_1 : ∀ cs v ps, bldD Tryz.prog 77 cs ((1, v) :: ps) = if v.cells.length = 2 ∧ 1 + 2 ≤ cs.length ∧ v.cells.all D.one = true then bldD Tryz.prog 77 (cs.take 1 ++ v.cells ++ cs.drop (1 + 2)) ps else none := bld_cons (ty := 31) (by kernel_rfl) sz31
theorem bc77_2 : ∀ cs v ps, bldD Tryz.prog 77 cs ((2, v) :: ps) = if v.cells.length = 3 ∧ 3 + 3 ≤ cs.length ∧ v.cells.all D.one = true then bldD Tryz.prog 77 (cs.take 3 ++ v.cells ++ cs.drop (3 + 3)) ps else none := bld_cons (ty := 29) (by kernel_rfl) sz29
theorem bu111 : ∀ ps, buildD Tryz.prog 111 ps = (bldD Tryz.prog 111 [.int .i64 0, .int .i64 0] ps).map .agg := buildD_eq ze111 (by kernel_rfl)
theorem bc111_0 : ∀ cs v ps, bldD Tryz.prog 111 cs ((0, v) :: ps) = if v.cells.length = 1 ∧ 0 + 1 ≤ cs.length ∧ v.cells.all D.one = true then bldD Tryz.prog 111 (cs.take 0 ++ v.cells ++ cs.drop (0 + 1)) ps else none := bld_cons (ty := 3) (by kernel_rfl) sz3
theorem bc111_1 : ∀ cs v ps, bldD Tryz.prog 111 cs ((1, v) :: ps) = if v.cells.length = 1 ∧ 1 + 1 ≤ cs.length ∧ v.cells.all D.one = true then bldD Tryz.prog 111 (cs.take 1 ++ v.cells ++ cs.drop (1 + 1)) ps else none := bld_cons (ty := 3) (by kernel_rfl) sz3
theorem bu115 : ∀ ps, buildD Tryz.prog 115 ps = (bldD Tryz.prog 115 [.str ByteArray.empty, .int .i64 0, .int .i64 0, .int .i64 0] ps).map .agg := buildD_eq ze115 (by kernel_rfl)
theorem bc115_0 : ∀ cs v ps, bldD Tryz.prog 115 cs ((0, v) :: ps) = if v.cells.length = 1 ∧ 0 + 1 ≤ cs.length ∧ v.cells.all D.one = true then bldD Tryz.prog 115 (cs.take 0 ++ v.cells ++ cs.drop (0 + 1)) ps else none := bld_cons (ty := 9) (by kernel_rfl) sz9
theorem bc115_1 : ∀ cs v ps, bldD Tryz.prog 115 cs ((1, v) :: ps) = if v.cells.length = 1 ∧ 1 + 1 ≤ cs.length ∧ v.cells.all D.one = true then bldD Tryz.prog 115 (cs.take 1 ++ v.cells ++ cs.drop (1 + 1)) ps else none := bld_cons (ty := 3) (by kernel_rfl) sz3
theorem bc115_2 : ∀ cs v ps, bldD Tryz.prog 115 cs ((2, v) :: ps) = if v.cells.length = 1 ∧ 2 + 1 ≤ cs.length ∧ v.cells.all D.one = true then bldD Tryz.prog 115 (cs.take 2 ++ v.cells ++ cs.drop (2 + 1)) ps else none := bld_cons (ty := 3) (by kernel_rfl) sz3
theorem bc115_3 : ∀ cs v ps, bldD Tryz.prog 115 cs ((3, v) :: ps) = if v.cells.length = 1 ∧ 3 + 1 ≤ cs.length ∧ v.cells.all D.one = true then bldD Tryz.prog 115 (cs.take 3 ++ v.cells ++ cs.drop (3 + 1)) ps else none := bld_cons (ty := 3) (by kernel_rfl) sz3
theorem ft27 : flatT Tryz.prog 27 = some [1, 1] := by kernel_rfl
theorem ft29 : flatT Tryz.prog 29 = some [1, 1, 1] := by kernel_rfl
theorem ft31 : flatT Tryz.prog 31 = some [1, 1] := by kernel_rfl
theorem ft77 : flatT Tryz.prog 77 = some [1, 1, 1, 1, 1, 1] := by kernel_rfl
theorem dr3_11 : drawInfo Tryz.prog cfg (opsAt Tryz.f3 11) = some [] := by kernel_rfl
theorem dr7_23 : drawInfo Tryz.prog cfg (opsAt Tryz.f7 23) = some [(7, 8)] := by kernel_rfl
theorem dr8_5 : drawInfo Tryz.prog cfg (opsAt Tryz.f8 5) = some [] := by kernel_rfl
theorem dr8_20 : drawInfo Tryz.prog cfg (opsAt Tryz.f8 20) = some [] := by kernel_rfl
theorem dr8_24 : drawInfo Tryz.prog cfg (opsAt Tryz.f8 24) = some [] := by kernel_rfl
theorem dr8_27 : drawInfo Tryz.prog cfg (opsAt Tryz.f8 27) = some [(1, 7)] := by kernel_rfl
theorem dr8_29 : drawInfo Tryz.prog cfg (opsAt Tryz.f8 29) = some [] := by kernel_rfl
theorem dr8_33 : drawInfo Tryz.prog cfg (opsAt Tryz.f8 33) = some [] := by kernel_rfl
theorem dr9_4 : drawInfo Tryz.prog cfg (opsAt Tryz.f9 4) = some [] := by kernel_rfl
theorem dr13_8 : drawInfo Tryz.prog cfg (opsAt Tryz.f13 8) = some [] := by kernel_rfl
theorem dr15_6 : drawInfo Tryz.prog cfg (opsAt Tryz.f15 6) = some [] := by kernel_rfl
theorem dr19_1 : drawInfo Tryz.prog cfg (opsAt Tryz.f19 1) = some [(4, 2), (7, 2), (7, 5)] := by kernel_rfl
theorem dr20_7 : drawInfo Tryz.prog cfg (opsAt Tryz.f20 7) = some [] := by kernel_rfl
theorem dr20_9 : drawInfo Tryz.prog cfg (opsAt Tryz.f20 9) = some [] := by kernel_rfl
theorem dr20_11 : drawInfo Tryz.prog cfg (opsAt Tryz.f20 11) = some [] := by kernel_rfl
theorem dr23_1 : drawInfo Tryz.prog cfg (opsAt Tryz.f23 1) = some [(2, 6)] := by kernel_rfl
theorem dr25_0 : drawInfo Tryz.prog cfg (opsAt Tryz.f25 0) = some [] := by kernel_rfl
theorem dr25_4 : drawInfo Tryz.prog cfg (opsAt Tryz.f25 4) = some [(5, 24), (5, 25), (10, 24), (10, 25)] := by kernel_rfl
theorem dr26_0 : drawInfo Tryz.prog cfg (opsAt Tryz.f26 0) = some [] := by kernel_rfl
theorem dr26_6 : drawInfo Tryz.prog cfg (opsAt Tryz.f26 6) = some [] := by kernel_rfl
theorem dr27_5 : drawInfo Tryz.prog cfg (opsAt Tryz.f27 5) = some [] := by kernel_rfl
theorem dr27_7 : drawInfo Tryz.prog cfg (opsAt Tryz.f27 7) = some [] := by kernel_rfl
theorem dr27_9 : drawInfo Tryz.prog cfg (opsAt Tryz.f27 9) = some [] := by kernel_rfl
theorem dr27_11 : drawInfo Tryz.prog cfg (opsAt Tryz.f27 11) = some [] := by kernel_rfl
theorem dr28_3 : drawInfo Tryz.prog cfg (opsAt Tryz.f28 3) = some [] := by kernel_rfl
theorem dr28_5 : drawInfo Tryz.prog cfg (opsAt Tryz.f28 5) = some [] := by kernel_rfl
theorem dr28_7 : drawInfo Tryz.prog cfg (opsAt Tryz.f28 7) = some [(4, 11), (9, 11)] := by kernel_rfl
theorem dr28_22 : drawInfo Tryz.prog cfg (opsAt Tryz.f28 22) = some [] := by kernel_rfl
theorem dr34_5 : drawInfo Tryz.prog cfg (opsAt Tryz.f34 5) = some [] := by kernel_rfl
theorem dr34_8 : drawInfo Tryz.prog cfg (opsAt Tryz.f34 8) = some [(1, 2)] := by kernel_rfl
theorem dr37_5 : drawInfo Tryz.prog cfg (opsAt Tryz.f37 5) = some [] := by kernel_rfl
theorem dr38_7 : drawInfo Tryz.prog cfg (opsAt Tryz.f38 7) = some [] := by kernel_rfl
theorem dr38_9 : drawInfo Tryz.prog cfg (opsAt Tryz.f38 9) = some [] := by kernel_rfl
theorem dr38_11 : drawInfo Tryz.prog cfg (opsAt Tryz.f38 11) = some [] := by kernel_rfl
theorem dr38_13 : drawInfo Tryz.prog cfg (opsAt Tryz.f38 13) = some [] := by kernel_rfl
theorem dr38_18 : drawInfo Tryz.prog cfg (opsAt Tryz.f38 18) = some [] := by kernel_rfl
theorem dr46_1 : drawInfo Tryz.prog cfg (opsAt Tryz.f46 1) = some [] := by kernel_rfl
theorem dr50_6 : drawInfo Tryz.prog cfg (opsAt Tryz.f50 6) = some [] := by kernel_rfl
theorem dr51_6 : drawInfo Tryz.prog cfg (opsAt Tryz.f51 6) = some [] := by kernel_rfl
theorem dr52_6 : drawInfo Tryz.prog cfg (opsAt Tryz.f52 6) = some [] := by kernel_rfl
theorem dr57_2 : drawInfo Tryz.prog cfg (opsAt Tryz.f57 2) = some [] := by kernel_rfl
theorem dr58_2 : drawInfo Tryz.prog cfg (opsAt Tryz.f58 2) = some [] := by kernel_rfl
theorem dr61_1 : drawInfo Tryz.prog cfg (opsAt Tryz.f61 1) = some [] := by kernel_rfl
theorem dr62_1 : drawInfo Tryz.prog cfg (opsAt Tryz.f62 1) = some [] := by kernel_rfl
theorem dr63_1 : drawInfo Tryz.prog cfg (opsAt Tryz.f63 1) = some [] := by kernel_rfl
theorem dr64_3 : drawInfo Tryz.prog cfg (opsAt Tryz.f64 3) = some [] := by kernel_rfl
theorem dr68_6 : drawInfo Tryz.prog cfg (opsAt Tryz.f68 6) = some [] := by kernel_rfl
theorem dr72_1 : drawInfo Tryz.prog cfg (opsAt Tryz.f72 1) = some [] := by kernel_rfl
theorem dr73_1 : drawInfo Tryz.prog cfg (opsAt Tryz.f73 1) = some [] := by kernel_rfl
theorem dr75_1 : drawInfo Tryz.prog cfg (opsAt Tryz.f75 1) = some [] := by kernel_rfl
theorem dr76_1 : drawInfo Tryz.prog cfg (opsAt Tryz.f76 1) = some [] := by kernel_rfl
theorem dr87_12 : drawInfo Tryz.prog cfg (opsAt Tryz.f87 12) = some [] := by kernel_rfl
theorem dr87_16 : drawInfo Tryz.prog cfg (opsAt Tryz.f87 16) = some [] := by kernel_rfl
theorem dr88_4 : drawInfo Tryz.prog cfg (opsAt Tryz.f88 4) = some [(1, 2)] := by kernel_rfl
theorem dr88_12 : drawInfo Tryz.prog cfg (opsAt Tryz.f88 12) = some [(1, 2)] := by kernel_rfl
theorem dr93_1 : drawInfo Tryz.prog cfg (opsAt Tryz.f93 1) = some [] := by kernel_rfl
attribute [simp] ag3 sz3 by3 ze3 un3 ag4 sz4 by4 ze4 un4 ag5 sz5 by5 ze5 un5 ag9 sz9 by9 ze9 un9 ag23 sz23 by23 ze23 un23 el23 ag24 sz24 by24 ze24 un24 el24 ag25 sz25 by25 ze25 un25 el25 ag27 sz27 by27 ze27 ag29 sz29 by29 ze29 ag31 sz31 by31 ze31 ag33 sz33 by33 ze33 ag35 sz35 by35 ze35 ag40 sz40 by40 ze40 ag51 sz51 by51 ze51 un51 el51 ag53 sz53 by53 ze53 ag55 sz55 by55 ze55 ag58 sz58 by58 ze58 ag60 sz60 by60 ze60 ag77 sz77 by77 ze77 ag87 sz87 by87 ze87 un87 ag106 sz106 by106 ze106 un106 el106 ag111 sz111 by111 ze111 ag115 sz115 by115 ze115 ag120 sz120 by120 ze120 ag123 sz123 by123 ze123 ag126 sz126 by126 ze126 un126 el126 ag128 sz128 by128 ze128 un128 ag132 sz132 by132 ze132 un132 ag133 sz133 by133 ze133 un133 el133 fp27_0 fq27_0 fp27_1 fq27_1 fp29_0 fq29_0 fp29_1 fq29_1 fp33_0 fq33_0 fp33_1 fq33_1 fp33_2 fq33_2 fp33_3 fq33_3 fp33_4 fq33_4 fp33_5 fq33_5 fp33_6 fq33_6 fp33_7 fq33_7 fp33_8 fq33_8 fp33_9 fq33_9 fp33_10 fq33_10 fp33_11 fq33_11 fp33_12 fq33_12 fp35_0 fq35_0 fp35_1 fq35_1 fp35_2 fq35_2 fp35_3 fq35_3 fp35_4 fq35_4 fp40_0 fq40_0 fp40_1 fq40_1 fp40_2 fq40_2 fp40_3 fq40_3 fp40_4 fq40_4 fp53_0 fq53_0 fp53_1 fq53_1 fp53_2 fq53_2 fp53_3 fq53_3 fp58_0 fq58_0 fp58_1 fq58_1 fp58_2 fq58_2 fp60_0 fq60_0 fp60_1 fq60_1 fp60_2 fq60_2 fp60_3 fq60_3 fp77_0 fq77_0 fp77_2 fq77_2 fp111_0 fq111_0 fp111_1 fq111_1 fp115_2 fq115_2 fp115_3 fq115_3 bu27 bc27_0 bc27_1 bu29 bc29_0 bc29_1 bu31 bc31_0 bu33 bc33_0 bc33_3 bc33_4 bc33_5 bc33_11 bu40 bc40_0 bc40_1 bc40_2 bc40_3 bc40_4 bu53 bc53_0 bc53_1 bc53_2 bu58 bc58_0 bc58_1 bc58_2 bu60 bc60_0 bc60_1 bc60_3 bu77 bc77_0 bc77_1 bc77_2 bu111 bc111_0 bc111_1 bu115 bc115_0 bc115_1 bc115_2 bc115_3 ft27 ft29 ft31 ft77 sh3 sh4 sh5 sh6 sh7 sh8 sh9 sh10 sh11 sh12 sh13 sh14 sh15 sh16 sh17 sh18 sh19 sh20 sh21 sh22 sh23 sh24 sh25 sh26 sh27 sh28 sh29 sh30 sh31 sh32 sh33 sh34 sh35 sh36 sh37 sh38 sh39 sh40 sh41 sh42 sh43 sh44 sh45 sh46 sh47 sh48 sh49 sh50 sh51 sh52 sh53 sh54 sh55 sh56 sh57 sh58 sh59 sh60 sh61 sh62 sh63 sh64 sh65 sh66 sh67 sh68 sh69 sh70 sh71 sh72 sh73 sh74 sh75 sh76 sh77 sh78 sh79 sh80 sh81 sh82 sh83 sh84 sh85 sh86 sh87 sh88 sh89 sh90 sh91 sh92 sh93 sh94 sh95 sh96 sh97 sh98 sh99 sh100 sh101 sh102 sh103 sh104 sh105 sh106
attribute [local simp] fits_agg fits_one
theorem lit23_0 (dst ty pos af g st ps) : opD Tryz.prog cfg R ⟨dst, .buildSlice 23 0 ps, ty, pos, af, g⟩ st = (evps st.σ ps.toList).bind (litK 4 true [] st.h) := lit_eq dst ty pos af g st ps el23 sz53 ag53 ze53 rfl (by simp) (by decide) (by decide)
theorem litn23_0 (dst ty pos af g st ps) : opD Tryz.prog ⟨cfg.shared, cfg.ext, true, cfg.lit⟩ R ⟨dst, .buildSlice 23 0 ps, ty, pos, af, g⟩ st = (evps st.σ ps.toList).bind (litK 4 true [] st.h) := lit_eq dst ty pos af g st ps el23 sz53 ag53 ze53 rfl (by simp) (by decide) (by decide)
theorem lit24_0 (dst ty pos af g st ps) : opD Tryz.prog cfg R ⟨dst, .buildSlice 24 0 ps, ty, pos, af, g⟩ st = (evps st.σ ps.toList).bind (litK 2 true [] st.h) := lit_eq dst ty pos af g st ps el24 sz27 ag27 ze27 rfl (by simp) (by decide) (by decide)
theorem litn24_0 (dst ty pos af g st ps) : opD Tryz.prog ⟨cfg.shared, cfg.ext, true, cfg.lit⟩ R ⟨dst, .buildSlice 24 0 ps, ty, pos, af, g⟩ st = (evps st.σ ps.toList).bind (litK 2 true [] st.h) := lit_eq dst ty pos af g st ps el24 sz27 ag27 ze27 rfl (by simp) (by decide) (by decide)
theorem lit24_1 (dst ty pos af g st ps) : opD Tryz.prog cfg R ⟨dst, .buildSlice 24 1 ps, ty, pos, af, g⟩ st = (evps st.σ ps.toList).bind (litK 2 true [(.agg [.int .i64 0, .int .i64 0])] st.h) := lit_eq dst ty pos af g st ps el24 sz27 ag27 ze27 rfl (by simp) (by decide) (by decide)
theorem litn24_1 (dst ty pos af g st ps) : opD Tryz.prog ⟨cfg.shared, cfg.ext, true, cfg.lit⟩ R ⟨dst, .buildSlice 24 1 ps, ty, pos, af, g⟩ st = (evps st.σ ps.toList).bind (litK 2 true [(.agg [.int .i64 0, .int .i64 0])] st.h) := lit_eq dst ty pos af g st ps el24 sz27 ag27 ze27 rfl (by simp) (by decide) (by decide)
theorem lit24_2 (dst ty pos af g st ps) : opD Tryz.prog cfg R ⟨dst, .buildSlice 24 2 ps, ty, pos, af, g⟩ st = (evps st.σ ps.toList).bind (litK 2 true [(.agg [.int .i64 0, .int .i64 0]), (.agg [.int .i64 0, .int .i64 0])] st.h) := lit_eq dst ty pos af g st ps el24 sz27 ag27 ze27 rfl (by simp) (by decide) (by decide)
theorem litn24_2 (dst ty pos af g st ps) : opD Tryz.prog ⟨cfg.shared, cfg.ext, true, cfg.lit⟩ R ⟨dst, .buildSlice 24 2 ps, ty, pos, af, g⟩ st = (evps st.σ ps.toList).bind (litK 2 true [(.agg [.int .i64 0, .int .i64 0]), (.agg [.int .i64 0, .int .i64 0])] st.h) := lit_eq dst ty pos af g st ps el24 sz27 ag27 ze27 rfl (by simp) (by decide) (by decide)
theorem lit25_0 (dst ty pos af g st ps) : opD Tryz.prog cfg R ⟨dst, .buildSlice 25 0 ps, ty, pos, af, g⟩ st = (evps st.σ ps.toList).bind (litK 6 true [] st.h) := lit_eq dst ty pos af g st ps el25 sz77 ag77 ze77 rfl (by simp) (by decide) (by decide)
theorem litn25_0 (dst ty pos af g st ps) : opD Tryz.prog ⟨cfg.shared, cfg.ext, true, cfg.lit⟩ R ⟨dst, .buildSlice 25 0 ps, ty, pos, af, g⟩ st = (evps st.σ ps.toList).bind (litK 6 true [] st.h) := lit_eq dst ty pos af g st ps el25 sz77 ag77 ze77 rfl (by simp) (by decide) (by decide)
theorem lit25_1 (dst ty pos af g st ps) : opD Tryz.prog cfg R ⟨dst, .buildSlice 25 1 ps, ty, pos, af, g⟩ st = (evps st.σ ps.toList).bind (litK 6 true [(.agg [.int .i64 0, .int .i64 0, .int .i64 0, .int .i64 0, .int .i64 0, .int .i64 0])] st.h) := lit_eq dst ty pos af g st ps el25 sz77 ag77 ze77 rfl (by simp) (by decide) (by decide)
theorem litn25_1 (dst ty pos af g st ps) : opD Tryz.prog ⟨cfg.shared, cfg.ext, true, cfg.lit⟩ R ⟨dst, .buildSlice 25 1 ps, ty, pos, af, g⟩ st = (evps st.σ ps.toList).bind (litK 6 true [(.agg [.int .i64 0, .int .i64 0, .int .i64 0, .int .i64 0, .int .i64 0, .int .i64 0])] st.h) := lit_eq dst ty pos af g st ps el25 sz77 ag77 ze77 rfl (by simp) (by decide) (by decide)
theorem lit51_1 (dst ty pos af g st ps) : opD Tryz.prog cfg R ⟨dst, .buildSlice 51 1 ps, ty, pos, af, g⟩ st = (evps st.σ ps.toList).bind (litK 3 true [(.agg [.int .i64 0, .int .i64 0, .int .i64 0])] st.h) := lit_eq dst ty pos af g st ps el51 sz58 ag58 ze58 rfl (by simp) (by decide) (by decide)
theorem litn51_1 (dst ty pos af g st ps) : opD Tryz.prog ⟨cfg.shared, cfg.ext, true, cfg.lit⟩ R ⟨dst, .buildSlice 51 1 ps, ty, pos, af, g⟩ st = (evps st.σ ps.toList).bind (litK 3 true [(.agg [.int .i64 0, .int .i64 0, .int .i64 0])] st.h) := lit_eq dst ty pos af g st ps el51 sz58 ag58 ze58 rfl (by simp) (by decide) (by decide)
theorem lit106_0 (dst ty pos af g st ps) : opD Tryz.prog cfg R ⟨dst, .buildSlice 106 0 ps, ty, pos, af, g⟩ st = (evps st.σ ps.toList).bind (litK 1 false [] st.h) := lit_eq dst ty pos af g st ps el106 sz9 ag9 ze9 rfl (by simp) (by decide) (by decide)
theorem litn106_0 (dst ty pos af g st ps) : opD Tryz.prog ⟨cfg.shared, cfg.ext, true, cfg.lit⟩ R ⟨dst, .buildSlice 106 0 ps, ty, pos, af, g⟩ st = (evps st.σ ps.toList).bind (litK 1 false [] st.h) := lit_eq dst ty pos af g st ps el106 sz9 ag9 ze9 rfl (by simp) (by decide) (by decide)
theorem lit106_1 (dst ty pos af g st ps) : opD Tryz.prog cfg R ⟨dst, .buildSlice 106 1 ps, ty, pos, af, g⟩ st = (evps st.σ ps.toList).bind (litK 1 false [(.str ByteArray.empty)] st.h) := lit_eq dst ty pos af g st ps el106 sz9 ag9 ze9 rfl (by simp) (by decide) (by decide)
theorem litn106_1 (dst ty pos af g st ps) : opD Tryz.prog ⟨cfg.shared, cfg.ext, true, cfg.lit⟩ R ⟨dst, .buildSlice 106 1 ps, ty, pos, af, g⟩ st = (evps st.σ ps.toList).bind (litK 1 false [(.str ByteArray.empty)] st.h) := lit_eq dst ty pos af g st ps el106 sz9 ag9 ze9 rfl (by simp) (by decide) (by decide)
theorem lit106_17 (dst ty pos af g st ps) : opD Tryz.prog cfg R ⟨dst, .buildSlice 106 17 ps, ty, pos, af, g⟩ st = (evps st.σ ps.toList).bind (litK 1 false [(.str ByteArray.empty), (.str ByteArray.empty), (.str ByteArray.empty), (.str ByteArray.empty), (.str ByteArray.empty), (.str ByteArray.empty), (.str ByteArray.empty), (.str ByteArray.empty), (.str ByteArray.empty), (.str ByteArray.empty), (.str ByteArray.empty), (.str ByteArray.empty), (.str ByteArray.empty), (.str ByteArray.empty), (.str ByteArray.empty), (.str ByteArray.empty), (.str ByteArray.empty)] st.h) := lit_eq dst ty pos af g st ps el106 sz9 ag9 ze9 rfl (by simp) (by decide) (by decide)
theorem litn106_17 (dst ty pos af g st ps) : opD Tryz.prog ⟨cfg.shared, cfg.ext, true, cfg.lit⟩ R ⟨dst, .buildSlice 106 17 ps, ty, pos, af, g⟩ st = (evps st.σ ps.toList).bind (litK 1 false [(.str ByteArray.empty), (.str ByteArray.empty), (.str ByteArray.empty), (.str ByteArray.empty), (.str ByteArray.empty), (.str ByteArray.empty), (.str ByteArray.empty), (.str ByteArray.empty), (.str ByteArray.empty), (.str ByteArray.empty), (.str ByteArray.empty), (.str ByteArray.empty), (.str ByteArray.empty), (.str ByteArray.empty), (.str ByteArray.empty), (.str ByteArray.empty), (.str ByteArray.empty)] st.h) := lit_eq dst ty pos af g st ps el106 sz9 ag9 ze9 rfl (by simp) (by decide) (by decide)
theorem lit133_1 (dst ty pos af g st ps) : opD Tryz.prog cfg R ⟨dst, .buildSlice 133 1 ps, ty, pos, af, g⟩ st = (evps st.σ ps.toList).bind (litK 1 false [(.int .u8 0)] st.h) := lit_eq dst ty pos af g st ps el133 sz5 ag5 ze5 rfl (by simp) (by decide) (by decide)
theorem litn133_1 (dst ty pos af g st ps) : opD Tryz.prog ⟨cfg.shared, cfg.ext, true, cfg.lit⟩ R ⟨dst, .buildSlice 133 1 ps, ty, pos, af, g⟩ st = (evps st.σ ps.toList).bind (litK 1 false [(.int .u8 0)] st.h) := lit_eq dst ty pos af g st ps el133 sz5 ag5 ze5 rfl (by simp) (by decide) (by decide)
theorem le9 (h ty) (s : ByteArray) : builtinD Tryz.prog h .len #[9] ty [.str s] = some (.int .i64 s.size, h) := by simp [builtinD, un9]
theorem le23 (h ty) (x : D) : builtinD Tryz.prog h .len #[23] ty [x] = (lenS x).map fun (n : Nat) => (D.int .i64 (n : Int), h) := bu_len (t := 23) rfl un23
theorem ap23 (h ty s x) : builtinD Tryz.prog h .append #[23, 23] ty [s, x] = (elsZ h 4 s).bind fun old => (elsZ h 4 x).bind (apK 48 4 h s old) := app_eq rfl rfl el23 un23 sz53 sz53 by53 ag53 (by simp [zeroOk]) (by decide) (by decide) h ty s x
theorem cp23 (h ty d s) : builtinD Tryz.prog h .copy #[23, 23] ty [d, s] = (lenS d).bind fun dl => (elsZ h 4 s).bind fun xs => cpN 4 h d (Nat.min xs.length dl) xs := copy_eq rfl el23 sz53 h ty d s
theorem ixs23 (xs tg i) : indexAddrD Tryz.prog 23 (.sl 4 xs tg) i = (idxD xs.length i).map fun i => .fptr 4 xs i 0 := ixsl_eq un23 sz53 xs tg i
theorem ixo23 (id ver off len i) : indexAddrD Tryz.prog 23 (.own 4 id ver off len) i = (idxD len i).map fun i => .ptr id ver (off + i) 0 := ixown_eq un23 sz53 id ver off len i
theorem le24 (h ty) (x : D) : builtinD Tryz.prog h .len #[24] ty [x] = (lenS x).map fun (n : Nat) => (D.int .i64 (n : Int), h) := bu_len (t := 24) rfl un24
theorem ap24 (h ty s x) : builtinD Tryz.prog h .append #[24, 24] ty [s, x] = (elsZ h 2 s).bind fun old => (elsZ h 2 x).bind (apK 16 2 h s old) := app_eq rfl rfl el24 un24 sz27 sz27 by27 ag27 (by simp [zeroOk]) (by decide) (by decide) h ty s x
theorem cp24 (h ty d s) : builtinD Tryz.prog h .copy #[24, 24] ty [d, s] = (lenS d).bind fun dl => (elsZ h 2 s).bind fun xs => cpN 2 h d (Nat.min xs.length dl) xs := copy_eq rfl el24 sz27 h ty d s
theorem ixs24 (xs tg i) : indexAddrD Tryz.prog 24 (.sl 2 xs tg) i = (idxD xs.length i).map fun i => .fptr 2 xs i 0 := ixsl_eq un24 sz27 xs tg i
theorem ixo24 (id ver off len i) : indexAddrD Tryz.prog 24 (.own 2 id ver off len) i = (idxD len i).map fun i => .ptr id ver (off + i) 0 := ixown_eq un24 sz27 id ver off len i
theorem le25 (h ty) (x : D) : builtinD Tryz.prog h .len #[25] ty [x] = (lenS x).map fun (n : Nat) => (D.int .i64 (n : Int), h) := bu_len (t := 25) rfl un25
theorem ap25 (h ty s x) : builtinD Tryz.prog h .append #[25, 25] ty [s, x] = (elsZ h 6 s).bind fun old => (elsZ h 6 x).bind (apK 48 6 h s old) := app_eq rfl rfl el25 un25 sz77 sz77 by77 ag77 (by simp [zeroOk]) (by decide) (by decide) h ty s x
theorem cp25 (h ty d s) : builtinD Tryz.prog h .copy #[25, 25] ty [d, s] = (lenS d).bind fun dl => (elsZ h 6 s).bind fun xs => cpN 6 h d (Nat.min xs.length dl) xs := copy_eq rfl el25 sz77 h ty d s
theorem ixs25 (xs tg i) : indexAddrD Tryz.prog 25 (.sl 6 xs tg) i = (idxD xs.length i).map fun i => .fptr 6 xs i 0 := ixsl_eq un25 sz77 xs tg i
theorem ixo25 (id ver off len i) : indexAddrD Tryz.prog 25 (.own 6 id ver off len) i = (idxD len i).map fun i => .ptr id ver (off + i) 0 := ixown_eq un25 sz77 id ver off len i
theorem le51 (h ty) (x : D) : builtinD Tryz.prog h .len #[51] ty [x] = (lenS x).map fun (n : Nat) => (D.int .i64 (n : Int), h) := bu_len (t := 51) rfl un51
theorem ap51 (h ty s x) : builtinD Tryz.prog h .append #[51, 51] ty [s, x] = (elsZ h 3 s).bind fun old => (elsZ h 3 x).bind (apK 24 3 h s old) := app_eq rfl rfl el51 un51 sz58 sz58 by58 ag58 (by simp [zeroOk]) (by decide) (by decide) h ty s x
theorem cp51 (h ty d s) : builtinD Tryz.prog h .copy #[51, 51] ty [d, s] = (lenS d).bind fun dl => (elsZ h 3 s).bind fun xs => cpN 3 h d (Nat.min xs.length dl) xs := copy_eq rfl el51 sz58 h ty d s
theorem ixs51 (xs tg i) : indexAddrD Tryz.prog 51 (.sl 3 xs tg) i = (idxD xs.length i).map fun i => .fptr 3 xs i 0 := ixsl_eq un51 sz58 xs tg i
theorem ixo51 (id ver off len i) : indexAddrD Tryz.prog 51 (.own 3 id ver off len) i = (idxD len i).map fun i => .ptr id ver (off + i) 0 := ixown_eq un51 sz58 id ver off len i
theorem le106 (h ty) (x : D) : builtinD Tryz.prog h .len #[106] ty [x] = (lenS x).map fun (n : Nat) => (D.int .i64 (n : Int), h) := bu_len (t := 106) rfl un106
theorem ap106 (h ty s x) : builtinD Tryz.prog h .append #[106, 106] ty [s, x] = (elsZ h 1 s).bind fun old => (elsZ h 1 x).bind (apK 16 1 h s old) := app_eq rfl rfl el106 un106 sz9 sz9 by9 ag9 (by simp [zeroOk]) (by decide) (by decide) h ty s x
theorem cp106 (h ty d s) : builtinD Tryz.prog h .copy #[106, 106] ty [d, s] = (lenS d).bind fun dl => (elsZ h 1 s).bind fun xs => cpN 1 h d (Nat.min xs.length dl) xs := copy_eq rfl el106 sz9 h ty d s
theorem ixs106 (xs tg i) : indexAddrD Tryz.prog 106 (.sl 1 xs tg) i = (idxD xs.length i).map fun i => .fptr 1 xs i 0 := ixsl_eq un106 sz9 xs tg i
theorem ixo106 (id ver off len i) : indexAddrD Tryz.prog 106 (.own 1 id ver off len) i = (idxD len i).map fun i => .ptr id ver (off + i) 0 := ixown_eq un106 sz9 id ver off len i
theorem le126 (h ty) (x : D) : builtinD Tryz.prog h .len #[126] ty [x] = (lenS x).map fun (n : Nat) => (D.int .i64 (n : Int), h) := bu_len (t := 126) rfl un126
theorem ap126 (h ty s x) : builtinD Tryz.prog h .append #[126, 126] ty [s, x] = (elsZ h 1 s).bind fun old => (elsZ h 1 x).bind (apK 8 1 h s old) := app_eq rfl rfl el126 un126 sz3 sz3 by3 ag3 (by simp [zeroOk]) (by decide) (by decide) h ty s x
theorem cp126 (h ty d s) : builtinD Tryz.prog h .copy #[126, 126] ty [d, s] = (lenS d).bind fun dl => (elsZ h 1 s).bind fun xs => cpN 1 h d (Nat.min xs.length dl) xs := copy_eq rfl el126 sz3 h ty d s
theorem ixs126 (xs tg i) : indexAddrD Tryz.prog 126 (.sl 1 xs tg) i = (idxD xs.length i).map fun i => .fptr 1 xs i 0 := ixsl_eq un126 sz3 xs tg i
theorem ixo126 (id ver off len i) : indexAddrD Tryz.prog 126 (.own 1 id ver off len) i = (idxD len i).map fun i => .ptr id ver (off + i) 0 := ixown_eq un126 sz3 id ver off len i
theorem le128 (h ty) (x : D) : builtinD Tryz.prog h .len #[128] ty [x] = some (.int .i64 17, h) := by simp [builtinD, un128]
theorem le133 (h ty) (x : D) : builtinD Tryz.prog h .len #[133] ty [x] = (lenS x).map fun (n : Nat) => (D.int .i64 (n : Int), h) := bu_len (t := 133) rfl un133
theorem ap133 (h ty s x) : builtinD Tryz.prog h .append #[133, 133] ty [s, x] = (elsZ h 1 s).bind fun old => (elsZ h 1 x).bind (apK 1 1 h s old) := app_eq rfl rfl el133 un133 sz5 sz5 by5 ag5 (by simp [zeroOk]) (by decide) (by decide) h ty s x
theorem cp133 (h ty d s) : builtinD Tryz.prog h .copy #[133, 133] ty [d, s] = (lenS d).bind fun dl => (elsZ h 1 s).bind fun xs => cpN 1 h d (Nat.min xs.length dl) xs := copy_eq rfl el133 sz5 h ty d s
theorem ixs133 (xs tg i) : indexAddrD Tryz.prog 133 (.sl 1 xs tg) i = (idxD xs.length i).map fun i => .fptr 1 xs i 0 := ixsl_eq un133 sz5 xs tg i
theorem ixo133 (id ver off len i) : indexAddrD Tryz.prog 133 (.own 1 id ver off len) i = (idxD len i).map fun i => .ptr id ver (off + i) 0 := ixown_eq un133 sz5 id ver off len i
attribute [simp] lit23_0 litn23_0 lit24_0 litn24_0 lit24_1 litn24_1 lit24_2 litn24_2 lit25_0 litn25_0 lit25_1 litn25_1 lit51_1 litn51_1 lit106_0 litn106_0 lit106_1 litn106_1 lit106_17 litn106_17 lit133_1 litn133_1 le9 le23 ap23 cp23 ixs23 ixo23 le24 ap24 cp24 ixs24 ixo24 le25 ap25 cp25 ixs25 ixo25 le51 ap51 cp51 ixs51 ixo51 le106 ap106 cp106 ixs106 ixo106 le126 ap126 cp126 ixs126 ixo126 le128 le133 ap133 cp133 ixs133 ixo133
end Go.Proofs.YtghidjgejmmcmaaGreatW.Vm
