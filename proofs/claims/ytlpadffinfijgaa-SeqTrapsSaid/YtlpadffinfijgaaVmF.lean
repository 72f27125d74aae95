/- What the types of this program are, and which regions have their order open: for simp. Printed by facts.py. No conditions. -/
import Derived.Test.YtlpadffinfijgaaVmSim
import Derived.Test.YtlpadffinfijgaaProg
import Derived.KernelRfl
set_option linter.unusedVariables false
set_option linter.unusedSimpArgs false
namespace Go.Proofs.YtlpadffinfijgaaW.Vm
open Go Go.Proofs
def cfg : Cfg := { shared := fun f => f == 24 || f == 31 || f == 32 || f == 37 || f == 44 || f == 51 || f == 52 || f == 53 || f == 56 || f == 57 || f == 58 || f == 59 || f == 60 || f == 61 || f == 62 || f == 63 || f == 64 || f == 65 || f == 79 || f == 80 || f == 81 || f == 82 || f == 83 || f == 85 || f == 87, ext := fun _ => none, lit := fun t n => !((t == 23 && n == 1) || (t == 51 && n == 3)) }
theorem cfg_lit (t n : Nat) : cfg.lit t n = (!((t == 23 && n == 1) || (t == 51 && n == 3))) := rfl
theorem cfg_nomark : cfg.nomark = false := rfl
noncomputable abbrev R : Run := W Try.prog cfg
theorem sh3 : cfg.shared 3 = false := by decide
theorem sh4 : cfg.shared 4 = false := by decide
theorem sh5 : cfg.shared 5 = false := by decide
theorem sh6 : cfg.shared 6 = false := by decide
theorem sh7 : cfg.shared 7 = false := by decide
theorem sh8 : cfg.shared 8 = false := by decide
theorem sh9 : cfg.shared 9 = false := by decide
theorem sh10 : cfg.shared 10 = false := by decide
theorem sh11 : cfg.shared 11 = false := by decide
theorem sh12 : cfg.shared 12 = false := by decide
theorem sh13 : cfg.shared 13 = false := by decide
theorem sh14 : cfg.shared 14 = false := by decide
theorem sh15 : cfg.shared 15 = false := by decide
theorem sh16 : cfg.shared 16 = false := by decide
theorem sh17 : cfg.shared 17 = false := by decide
theorem sh18 : cfg.shared 18 = false := by decide
theorem sh19 : cfg.shared 19 = false := by decide
theorem sh20 : cfg.shared 20 = false := by decide
theorem sh21 : cfg.shared 21 = false := by decide
theorem sh22 : cfg.shared 22 = false := by decide
theorem sh23 : cfg.shared 23 = false := by decide
theorem sh24 : cfg.shared 24 = true := by decide
theorem sh25 : cfg.shared 25 = false := by decide
theorem sh26 : cfg.shared 26 = false := by decide
theorem sh27 : cfg.shared 27 = false := by decide
theorem sh28 : cfg.shared 28 = false := by decide
theorem sh29 : cfg.shared 29 = false := by decide
theorem sh30 : cfg.shared 30 = false := by decide
theorem sh31 : cfg.shared 31 = true := by decide
theorem sh32 : cfg.shared 32 = true := by decide
theorem sh33 : cfg.shared 33 = false := by decide
theorem sh34 : cfg.shared 34 = false := by decide
theorem sh35 : cfg.shared 35 = false := by decide
theorem sh36 : cfg.shared 36 = false := by decide
theorem sh37 : cfg.shared 37 = true := by decide
theorem sh38 : cfg.shared 38 = false := by decide
theorem sh39 : cfg.shared 39 = false := by decide
theorem sh40 : cfg.shared 40 = false := by decide
theorem sh41 : cfg.shared 41 = false := by decide
theorem sh42 : cfg.shared 42 = false := by decide
theorem sh43 : cfg.shared 43 = false := by decide
theorem sh44 : cfg.shared 44 = true := by decide
theorem sh45 : cfg.shared 45 = false := by decide
theorem sh46 : cfg.shared 46 = false := by decide
theorem sh47 : cfg.shared 47 = false := by decide
theorem sh48 : cfg.shared 48 = false := by decide
theorem sh49 : cfg.shared 49 = false := by decide
theorem sh50 : cfg.shared 50 = false := by decide
theorem sh51 : cfg.shared 51 = true := by decide
theorem sh52 : cfg.shared 52 = true := by decide
theorem sh53 : cfg.shared 53 = true := by decide
theorem sh54 : cfg.shared 54 = false := by decide
theorem sh55 : cfg.shared 55 = false := by decide
theorem sh56 : cfg.shared 56 = true := by decide
theorem sh57 : cfg.shared 57 = true := by decide
theorem sh58 : cfg.shared 58 = true := by decide
theorem sh59 : cfg.shared 59 = true := by decide
theorem sh60 : cfg.shared 60 = true := by decide
theorem sh61 : cfg.shared 61 = true := by decide
theorem sh62 : cfg.shared 62 = true := by decide
theorem sh63 : cfg.shared 63 = true := by decide
theorem sh64 : cfg.shared 64 = true := by decide
theorem sh65 : cfg.shared 65 = true := by decide
theorem sh66 : cfg.shared 66 = false := by decide
theorem sh67 : cfg.shared 67 = false := by decide
theorem sh68 : cfg.shared 68 = false := by decide
theorem sh69 : cfg.shared 69 = false := by decide
theorem sh70 : cfg.shared 70 = false := by decide
theorem sh71 : cfg.shared 71 = false := by decide
theorem sh72 : cfg.shared 72 = false := by decide
theorem sh73 : cfg.shared 73 = false := by decide
theorem sh74 : cfg.shared 74 = false := by decide
theorem sh75 : cfg.shared 75 = false := by decide
theorem sh76 : cfg.shared 76 = false := by decide
theorem sh77 : cfg.shared 77 = false := by decide
theorem sh78 : cfg.shared 78 = false := by decide
theorem sh79 : cfg.shared 79 = true := by decide
theorem sh80 : cfg.shared 80 = true := by decide
theorem sh81 : cfg.shared 81 = true := by decide
theorem sh82 : cfg.shared 82 = true := by decide
theorem sh83 : cfg.shared 83 = true := by decide
theorem sh84 : cfg.shared 84 = false := by decide
theorem sh85 : cfg.shared 85 = true := by decide
theorem sh86 : cfg.shared 86 = false := by decide
theorem sh87 : cfg.shared 87 = true := by decide
theorem sh88 : cfg.shared 88 = false := by decide
theorem sh89 : cfg.shared 89 = false := by decide
theorem sh90 : cfg.shared 90 = false := by decide
theorem sh91 : cfg.shared 91 = false := by decide
theorem sh92 : cfg.shared 92 = false := by decide
theorem sh93 : cfg.shared 93 = false := by decide
theorem sh94 : cfg.shared 94 = false := by decide
theorem sh95 : cfg.shared 95 = false := by decide
theorem sh96 : cfg.shared 96 = false := by decide
theorem sh97 : cfg.shared 97 = false := by decide
theorem sh98 : cfg.shared 98 = false := by decide
theorem sh99 : cfg.shared 99 = false := by decide
theorem sh100 : cfg.shared 100 = false := by decide
theorem sh101 : cfg.shared 101 = false := by decide
theorem sh102 : cfg.shared 102 = false := by decide
theorem sh103 : cfg.shared 103 = false := by decide
theorem sh104 : cfg.shared 104 = false := by decide
theorem sh105 : cfg.shared 105 = false := by decide
theorem sh106 : cfg.shared 106 = false := by decide
theorem sh107 : cfg.shared 107 = false := by decide
theorem sh108 : cfg.shared 108 = false := by decide
theorem sh109 : cfg.shared 109 = false := by decide
theorem sh110 : cfg.shared 110 = false := by decide
theorem sh111 : cfg.shared 111 = false := by decide
theorem sh112 : cfg.shared 112 = false := by decide
theorem sh113 : cfg.shared 113 = false := by decide
theorem cfg_ext (f : Nat) : cfg.ext f = none := rfl
theorem ag3 : aggT Try.prog 3 = some false := by kernel_rfl
theorem sz3 : szT Try.prog 3 = some 1 := by kernel_rfl
theorem by3 : byT Try.prog 3 = some 8 := by kernel_rfl
theorem ze3 : zeroT Try.prog 3 = some (.int .i64 0) := by kernel_rfl
theorem un3 : Try.prog.underlying 3 = some (.int .i64) := by kernel_rfl
theorem ag4 : aggT Try.prog 4 = some false := by kernel_rfl
theorem sz4 : szT Try.prog 4 = some 1 := by kernel_rfl
theorem by4 : byT Try.prog 4 = some 1 := by kernel_rfl
theorem ze4 : zeroT Try.prog 4 = some (.bool false) := by kernel_rfl
theorem un4 : Try.prog.underlying 4 = some .bool := by kernel_rfl
theorem ag5 : aggT Try.prog 5 = some false := by kernel_rfl
theorem sz5 : szT Try.prog 5 = some 1 := by kernel_rfl
theorem by5 : byT Try.prog 5 = some 1 := by kernel_rfl
theorem ze5 : zeroT Try.prog 5 = some (.int .u8 0) := by kernel_rfl
theorem un5 : Try.prog.underlying 5 = some (.int .u8) := by kernel_rfl
theorem ag9 : aggT Try.prog 9 = some false := by kernel_rfl
theorem sz9 : szT Try.prog 9 = some 1 := by kernel_rfl
theorem by9 : byT Try.prog 9 = some 16 := by kernel_rfl
theorem ze9 : zeroT Try.prog 9 = some (.str ByteArray.empty) := by kernel_rfl
theorem un9 : Try.prog.underlying 9 = some .string := by kernel_rfl
theorem ag20 : aggT Try.prog 20 = some false := by kernel_rfl
theorem sz20 : szT Try.prog 20 = some 1 := by kernel_rfl
theorem by20 : byT Try.prog 20 = some 16 := by kernel_rfl
theorem ze20 : zeroT Try.prog 20 = some (.nili) := by kernel_rfl
theorem ag23 : aggT Try.prog 23 = some false := by kernel_rfl
theorem sz23 : szT Try.prog 23 = some 1 := by kernel_rfl
theorem by23 : byT Try.prog 23 = some 24 := by kernel_rfl
theorem ze23 : zeroT Try.prog 23 = some (.snil) := by kernel_rfl
theorem un23 : Try.prog.underlying 23 = some (.slice 41) := by kernel_rfl
theorem el23 : elemT Try.prog 23 = some 41 := by kernel_rfl
theorem ag24 : aggT Try.prog 24 = some false := by kernel_rfl
theorem sz24 : szT Try.prog 24 = some 1 := by kernel_rfl
theorem by24 : byT Try.prog 24 = some 24 := by kernel_rfl
theorem ze24 : zeroT Try.prog 24 = some (.snil) := by kernel_rfl
theorem un24 : Try.prog.underlying 24 = some (.slice 30) := by kernel_rfl
theorem el24 : elemT Try.prog 24 = some 30 := by kernel_rfl
theorem ag26 : aggT Try.prog 26 = some true := by kernel_rfl
theorem sz26 : szT Try.prog 26 = some 3 := by kernel_rfl
theorem by26 : byT Try.prog 26 = some 56 := by kernel_rfl
theorem ze26 : zeroT Try.prog 26 = some (.agg [.snil, .snil, .int .i64 0]) := by kernel_rfl
theorem ag30 : aggT Try.prog 30 = some true := by kernel_rfl
theorem sz30 : szT Try.prog 30 = some 2 := by kernel_rfl
theorem by30 : byT Try.prog 30 = some 16 := by kernel_rfl
theorem ze30 : zeroT Try.prog 30 = some (.agg [.int .i64 0, .int .i64 0]) := by kernel_rfl
theorem ag32 : aggT Try.prog 32 = some true := by kernel_rfl
theorem sz32 : szT Try.prog 32 = some 3 := by kernel_rfl
theorem by32 : byT Try.prog 32 = some 24 := by kernel_rfl
theorem ze32 : zeroT Try.prog 32 = some (.agg [.int .i64 0, .int .i64 0, .int .i64 0]) := by kernel_rfl
theorem ag33 : aggT Try.prog 33 = some false := by kernel_rfl
theorem sz33 : szT Try.prog 33 = some 1 := by kernel_rfl
theorem by33 : byT Try.prog 33 = some 8 := by kernel_rfl
theorem ze33 : zeroT Try.prog 33 = some (.int .i64 0) := by kernel_rfl
theorem un33 : Try.prog.underlying 33 = some (.int .i64) := by kernel_rfl
theorem ag39 : aggT Try.prog 39 = some false := by kernel_rfl
theorem sz39 : szT Try.prog 39 = some 1 := by kernel_rfl
theorem by39 : byT Try.prog 39 = some 24 := by kernel_rfl
theorem ze39 : zeroT Try.prog 39 = some (.snil) := by kernel_rfl
theorem un39 : Try.prog.underlying 39 = some (.slice 44) := by kernel_rfl
theorem el39 : elemT Try.prog 39 = some 44 := by kernel_rfl
theorem ag41 : aggT Try.prog 41 = some true := by kernel_rfl
theorem sz41 : szT Try.prog 41 = some 4 := by kernel_rfl
theorem by41 : byT Try.prog 41 = some 48 := by kernel_rfl
theorem ze41 : zeroT Try.prog 41 = some (.agg [.int .i64 0, .int .i64 0, .int .i64 0, .snil]) := by kernel_rfl
theorem ag44 : aggT Try.prog 44 = some true := by kernel_rfl
theorem sz44 : szT Try.prog 44 = some 3 := by kernel_rfl
theorem by44 : byT Try.prog 44 = some 24 := by kernel_rfl
theorem ze44 : zeroT Try.prog 44 = some (.agg [.int .i64 0, .int .i64 0, .int .i64 0]) := by kernel_rfl
theorem ag49 : aggT Try.prog 49 = some false := by kernel_rfl
theorem sz49 : szT Try.prog 49 = some 1 := by kernel_rfl
theorem by49 : byT Try.prog 49 = some 24 := by kernel_rfl
theorem ze49 : zeroT Try.prog 49 = some (.snil) := by kernel_rfl
theorem un49 : Try.prog.underlying 49 = some (.slice 9) := by kernel_rfl
theorem el49 : elemT Try.prog 49 = some 9 := by kernel_rfl
theorem ag51 : aggT Try.prog 51 = some false := by kernel_rfl
theorem sz51 : szT Try.prog 51 = some 1 := by kernel_rfl
theorem by51 : byT Try.prog 51 = some 24 := by kernel_rfl
theorem ze51 : zeroT Try.prog 51 = some (.snil) := by kernel_rfl
theorem un51 : Try.prog.underlying 51 = some (.slice 3) := by kernel_rfl
theorem el51 : elemT Try.prog 51 = some 3 := by kernel_rfl
theorem ag58 : aggT Try.prog 58 = some false := by kernel_rfl
theorem sz58 : szT Try.prog 58 = some 1 := by kernel_rfl
theorem by58 : byT Try.prog 58 = some 24 := by kernel_rfl
theorem ze58 : zeroT Try.prog 58 = some (.snil) := by kernel_rfl
theorem un58 : Try.prog.underlying 58 = some (.slice 111) := by kernel_rfl
theorem el58 : elemT Try.prog 58 = some 111 := by kernel_rfl
theorem ag60 : aggT Try.prog 60 = some true := by kernel_rfl
theorem sz60 : szT Try.prog 60 = some 2 := by kernel_rfl
theorem by60 : byT Try.prog 60 = some 16 := by kernel_rfl
theorem ze60 : zeroT Try.prog 60 = some (.agg [.int .i64 0, .int .i64 0]) := by kernel_rfl
theorem ag62 : aggT Try.prog 62 = some true := by kernel_rfl
theorem sz62 : szT Try.prog 62 = some 16 := by kernel_rfl
theorem by62 : byT Try.prog 62 = some 176 := by kernel_rfl
theorem ze62 : zeroT Try.prog 62 = some (.agg [.int .i64 0, .int .i64 0, .snil, .snil, .snil, .int .i64 0, .int .i64 0, .int .i64 0, .int .i64 0, .int .i64 0, .int .i64 0, .int .i64 0, .int .i64 0, .int .i64 0, .int .i64 0, .int .i64 0]) := by kernel_rfl
theorem ag66 : aggT Try.prog 66 = some true := by kernel_rfl
theorem sz66 : szT Try.prog 66 = some 0 := by kernel_rfl
theorem by66 : byT Try.prog 66 = some 0 := by kernel_rfl
theorem ze66 : zeroT Try.prog 66 = some (.agg []) := by kernel_rfl
theorem ag68 : aggT Try.prog 68 = some false := by kernel_rfl
theorem sz68 : szT Try.prog 68 = some 1 := by kernel_rfl
theorem by68 : byT Try.prog 68 = some 8 := by kernel_rfl
theorem ze68 : zeroT Try.prog 68 = some (.nil) := by kernel_rfl
theorem ag70 : aggT Try.prog 70 = some true := by kernel_rfl
theorem sz70 : szT Try.prog 70 = some 3 := by kernel_rfl
theorem by70 : byT Try.prog 70 = some 40 := by kernel_rfl
theorem ze70 : zeroT Try.prog 70 = some (.agg [.snil, .int .i64 0, .int .i64 0]) := by kernel_rfl
theorem ag75 : aggT Try.prog 75 = some false := by kernel_rfl
theorem sz75 : szT Try.prog 75 = some 1 := by kernel_rfl
theorem by75 : byT Try.prog 75 = some 24 := by kernel_rfl
theorem ze75 : zeroT Try.prog 75 = some (.snil) := by kernel_rfl
theorem un75 : Try.prog.underlying 75 = some (.slice 5) := by kernel_rfl
theorem el75 : elemT Try.prog 75 = some 5 := by kernel_rfl
theorem ag76 : aggT Try.prog 76 = some false := by kernel_rfl
theorem sz76 : szT Try.prog 76 = some 1 := by kernel_rfl
theorem by76 : byT Try.prog 76 = some 8 := by kernel_rfl
theorem ze76 : zeroT Try.prog 76 = some (.nil) := by kernel_rfl
theorem ag79 : aggT Try.prog 79 = some false := by kernel_rfl
theorem sz79 : szT Try.prog 79 = some 1 := by kernel_rfl
theorem by79 : byT Try.prog 79 = some 24 := by kernel_rfl
theorem ze79 : zeroT Try.prog 79 = some (.snil) := by kernel_rfl
theorem un79 : Try.prog.underlying 79 = some (.slice 4) := by kernel_rfl
theorem el79 : elemT Try.prog 79 = some 4 := by kernel_rfl
theorem ag81 : aggT Try.prog 81 = some true := by kernel_rfl
theorem sz81 : szT Try.prog 81 = some 8 := by kernel_rfl
theorem by81 : byT Try.prog 81 = some 128 := by kernel_rfl
theorem ze81 : zeroT Try.prog 81 = some (.agg [.snil, .int .i64 0, .int .i64 0, .int .i64 0, .snil, .snil, .snil, .int .i64 0]) := by kernel_rfl
theorem ag85 : aggT Try.prog 85 = some true := by kernel_rfl
theorem sz85 : szT Try.prog 85 = some 5 := by kernel_rfl
theorem by85 : byT Try.prog 85 = some 56 := by kernel_rfl
theorem ze85 : zeroT Try.prog 85 = some (.agg [.int .i64 0, .int .i64 0, .int .i64 0, .int .i64 0, .snil]) := by kernel_rfl
theorem ag102 : aggT Try.prog 102 = some false := by kernel_rfl
theorem sz102 : szT Try.prog 102 = some 1 := by kernel_rfl
theorem by102 : byT Try.prog 102 = some 8 := by kernel_rfl
theorem ze102 : zeroT Try.prog 102 = some (.nil) := by kernel_rfl
theorem ag105 : aggT Try.prog 105 = some true := by kernel_rfl
theorem sz105 : szT Try.prog 105 = some 25 := by kernel_rfl
theorem by105 : byT Try.prog 105 = some 280 := by kernel_rfl
theorem ze105 : zeroT Try.prog 105 = some (.agg [.int .i64 0, .int .i64 0, .snil, .snil, .snil, .int .i64 0, .int .i64 0, .int .i64 0, .int .i64 0, .int .i64 0, .int .i64 0, .int .i64 0, .int .i64 0, .int .i64 0, .int .i64 0, .int .i64 0, .snil, .int .i64 0, .int .i64 0, .int .i64 0, .int .i64 0, .int .i64 0, .int .i64 0, .int .i64 0, .snil]) := by kernel_rfl
theorem ag111 : aggT Try.prog 111 = some true := by kernel_rfl
theorem sz111 : szT Try.prog 111 = some 6 := by kernel_rfl
theorem by111 : byT Try.prog 111 = some 48 := by kernel_rfl
theorem ze111 : zeroT Try.prog 111 = some (.agg [.int .i64 0, .int .i64 0, .int .i64 0, .int .i64 0, .int .i64 0, .int .i64 0]) := by kernel_rfl
theorem ag120 : aggT Try.prog 120 = some true := by kernel_rfl
theorem sz120 : szT Try.prog 120 = some 2 := by kernel_rfl
theorem by120 : byT Try.prog 120 = some 16 := by kernel_rfl
theorem ze120 : zeroT Try.prog 120 = some (.agg [.int .i64 0, .int .i64 0]) := by kernel_rfl
theorem ag123 : aggT Try.prog 123 = some false := by kernel_rfl
theorem sz123 : szT Try.prog 123 = some 1 := by kernel_rfl
theorem by123 : byT Try.prog 123 = some 8 := by kernel_rfl
theorem ze123 : zeroT Try.prog 123 = some (.int .u64 0) := by kernel_rfl
theorem un123 : Try.prog.underlying 123 = some (.int .u64) := by kernel_rfl
theorem ag143 : aggT Try.prog 143 = some false := by kernel_rfl
theorem sz143 : szT Try.prog 143 = some 1 := by kernel_rfl
theorem by143 : byT Try.prog 143 = some 4 := by kernel_rfl
theorem ze143 : zeroT Try.prog 143 = some (.int .u32 0) := by kernel_rfl
theorem un143 : Try.prog.underlying 143 = some (.int .u32) := by kernel_rfl
theorem ag146 : aggT Try.prog 146 = some false := by kernel_rfl
theorem sz146 : szT Try.prog 146 = some 1 := by kernel_rfl
theorem by146 : byT Try.prog 146 = some 8 := by kernel_rfl
theorem ze146 : zeroT Try.prog 146 = some (.int .u64 0) := by kernel_rfl
theorem un146 : Try.prog.underlying 146 = some (.int .u64) := by kernel_rfl
theorem ag150 : aggT Try.prog 150 = some true := by kernel_rfl
theorem sz150 : szT Try.prog 150 = some 4 := by kernel_rfl
theorem by150 : byT Try.prog 150 = some 40 := by kernel_rfl
theorem ze150 : zeroT Try.prog 150 = some (.agg [.str ByteArray.empty, .int .i64 0, .int .i64 0, .int .i64 0]) := by kernel_rfl
theorem ag155 : aggT Try.prog 155 = some false := by kernel_rfl
theorem sz155 : szT Try.prog 155 = some 1 := by kernel_rfl
theorem by155 : byT Try.prog 155 = some 16 := by kernel_rfl
theorem ze155 : zeroT Try.prog 155 = some (.cpx .f64 0 0) := by kernel_rfl
theorem ag158 : aggT Try.prog 158 = some false := by kernel_rfl
theorem sz158 : szT Try.prog 158 = some 1 := by kernel_rfl
theorem by158 : byT Try.prog 158 = some 8 := by kernel_rfl
theorem ze158 : zeroT Try.prog 158 = some (.flt .f64 0) := by kernel_rfl
theorem ag160 : aggT Try.prog 160 = some true := by kernel_rfl
theorem sz160 : szT Try.prog 160 = some 68 := by kernel_rfl
theorem by160 : byT Try.prog 160 = some 680 := by kernel_rfl
theorem ze160 : zeroT Try.prog 160 = some (.agg [.str ByteArray.empty, .int .i64 0, .int .i64 0, .int .i64 0, .str ByteArray.empty, .int .i64 0, .int .i64 0, .int .i64 0, .str ByteArray.empty, .int .i64 0, .int .i64 0, .int .i64 0, .str ByteArray.empty, .int .i64 0, .int .i64 0, .int .i64 0, .str ByteArray.empty, .int .i64 0, .int .i64 0, .int .i64 0, .str ByteArray.empty, .int .i64 0, .int .i64 0, .int .i64 0, .str ByteArray.empty, .int .i64 0, .int .i64 0, .int .i64 0, .str ByteArray.empty, .int .i64 0, .int .i64 0, .int .i64 0, .str ByteArray.empty, .int .i64 0, .int .i64 0, .int .i64 0, .str ByteArray.empty, .int .i64 0, .int .i64 0, .int .i64 0, .str ByteArray.empty, .int .i64 0, .int .i64 0, .int .i64 0, .str ByteArray.empty, .int .i64 0, .int .i64 0, .int .i64 0, .str ByteArray.empty, .int .i64 0, .int .i64 0, .int .i64 0, .str ByteArray.empty, .int .i64 0, .int .i64 0, .int .i64 0, .str ByteArray.empty, .int .i64 0, .int .i64 0, .int .i64 0, .str ByteArray.empty, .int .i64 0, .int .i64 0, .int .i64 0, .str ByteArray.empty, .int .i64 0, .int .i64 0, .int .i64 0]) := by kernel_rfl
theorem un160 : Try.prog.underlying 160 = some (.array 17 150) := by kernel_rfl
theorem fp26_0 : ∀ id ver i j, fieldAddrD Try.prog 26 0 (.ptr id ver i j) = some (.ptr id ver i (j + 0)) := fun id ver i j => fd_of (ty := 23) (by kernel_rfl) sz23 (by decide) _
theorem fq26_0 : ∀ z xs i j, fieldAddrD Try.prog 26 0 (.fptr z xs i j) = some (.fptr z xs i (j + 0)) := fun z xs i j => fd_of (ty := 23) (by kernel_rfl) sz23 (by decide) _
theorem fp26_1 : ∀ id ver i j, fieldAddrD Try.prog 26 1 (.ptr id ver i j) = some (.ptr id ver i (j + 1)) := fun id ver i j => fd_of (ty := 24) (by kernel_rfl) sz24 (by decide) _
theorem fq26_1 : ∀ z xs i j, fieldAddrD Try.prog 26 1 (.fptr z xs i j) = some (.fptr z xs i (j + 1)) := fun z xs i j => fd_of (ty := 24) (by kernel_rfl) sz24 (by decide) _
theorem fp26_2 : ∀ id ver i j, fieldAddrD Try.prog 26 2 (.ptr id ver i j) = some (.ptr id ver i (j + 2)) := fun id ver i j => fd_of (ty := 3) (by kernel_rfl) sz3 (by decide) _
theorem fq26_2 : ∀ z xs i j, fieldAddrD Try.prog 26 2 (.fptr z xs i j) = some (.fptr z xs i (j + 2)) := fun z xs i j => fd_of (ty := 3) (by kernel_rfl) sz3 (by decide) _
theorem fp30_0 : ∀ id ver i j, fieldAddrD Try.prog 30 0 (.ptr id ver i j) = some (.ptr id ver i (j + 0)) := fun id ver i j => fd_of (ty := 3) (by kernel_rfl) sz3 (by decide) _
theorem fq30_0 : ∀ z xs i j, fieldAddrD Try.prog 30 0 (.fptr z xs i j) = some (.fptr z xs i (j + 0)) := fun z xs i j => fd_of (ty := 3) (by kernel_rfl) sz3 (by decide) _
theorem fp30_1 : ∀ id ver i j, fieldAddrD Try.prog 30 1 (.ptr id ver i j) = some (.ptr id ver i (j + 1)) := fun id ver i j => fd_of (ty := 3) (by kernel_rfl) sz3 (by decide) _
theorem fq30_1 : ∀ z xs i j, fieldAddrD Try.prog 30 1 (.fptr z xs i j) = some (.fptr z xs i (j + 1)) := fun z xs i j => fd_of (ty := 3) (by kernel_rfl) sz3 (by decide) _
theorem fp32_0 : ∀ id ver i j, fieldAddrD Try.prog 32 0 (.ptr id ver i j) = some (.ptr id ver i (j + 0)) := fun id ver i j => fd_of (ty := 3) (by kernel_rfl) sz3 (by decide) _
theorem fq32_0 : ∀ z xs i j, fieldAddrD Try.prog 32 0 (.fptr z xs i j) = some (.fptr z xs i (j + 0)) := fun z xs i j => fd_of (ty := 3) (by kernel_rfl) sz3 (by decide) _
theorem fp32_1 : ∀ id ver i j, fieldAddrD Try.prog 32 1 (.ptr id ver i j) = some (.ptr id ver i (j + 1)) := fun id ver i j => fd_of (ty := 30) (by kernel_rfl) sz30 (by decide) _
theorem fq32_1 : ∀ z xs i j, fieldAddrD Try.prog 32 1 (.fptr z xs i j) = some (.fptr z xs i (j + 1)) := fun z xs i j => fd_of (ty := 30) (by kernel_rfl) sz30 (by decide) _
theorem fp41_0 : ∀ id ver i j, fieldAddrD Try.prog 41 0 (.ptr id ver i j) = some (.ptr id ver i (j + 0)) := fun id ver i j => fd_of (ty := 3) (by kernel_rfl) sz3 (by decide) _
theorem fq41_0 : ∀ z xs i j, fieldAddrD Try.prog 41 0 (.fptr z xs i j) = some (.fptr z xs i (j + 0)) := fun z xs i j => fd_of (ty := 3) (by kernel_rfl) sz3 (by decide) _
theorem fp41_1 : ∀ id ver i j, fieldAddrD Try.prog 41 1 (.ptr id ver i j) = some (.ptr id ver i (j + 1)) := fun id ver i j => fd_of (ty := 3) (by kernel_rfl) sz3 (by decide) _
theorem fq41_1 : ∀ z xs i j, fieldAddrD Try.prog 41 1 (.fptr z xs i j) = some (.fptr z xs i (j + 1)) := fun z xs i j => fd_of (ty := 3) (by kernel_rfl) sz3 (by decide) _
theorem fp41_2 : ∀ id ver i j, fieldAddrD Try.prog 41 2 (.ptr id ver i j) = some (.ptr id ver i (j + 2)) := fun id ver i j => fd_of (ty := 3) (by kernel_rfl) sz3 (by decide) _
theorem fq41_2 : ∀ z xs i j, fieldAddrD Try.prog 41 2 (.fptr z xs i j) = some (.fptr z xs i (j + 2)) := fun z xs i j => fd_of (ty := 3) (by kernel_rfl) sz3 (by decide) _
theorem fp41_3 : ∀ id ver i j, fieldAddrD Try.prog 41 3 (.ptr id ver i j) = some (.ptr id ver i (j + 3)) := fun id ver i j => fd_of (ty := 39) (by kernel_rfl) sz39 (by decide) _
theorem fq41_3 : ∀ z xs i j, fieldAddrD Try.prog 41 3 (.fptr z xs i j) = some (.fptr z xs i (j + 3)) := fun z xs i j => fd_of (ty := 39) (by kernel_rfl) sz39 (by decide) _
theorem fp44_0 : ∀ id ver i j, fieldAddrD Try.prog 44 0 (.ptr id ver i j) = some (.ptr id ver i (j + 0)) := fun id ver i j => fd_of (ty := 3) (by kernel_rfl) sz3 (by decide) _
theorem fq44_0 : ∀ z xs i j, fieldAddrD Try.prog 44 0 (.fptr z xs i j) = some (.fptr z xs i (j + 0)) := fun z xs i j => fd_of (ty := 3) (by kernel_rfl) sz3 (by decide) _
theorem fp44_1 : ∀ id ver i j, fieldAddrD Try.prog 44 1 (.ptr id ver i j) = some (.ptr id ver i (j + 1)) := fun id ver i j => fd_of (ty := 3) (by kernel_rfl) sz3 (by decide) _
theorem fq44_1 : ∀ z xs i j, fieldAddrD Try.prog 44 1 (.fptr z xs i j) = some (.fptr z xs i (j + 1)) := fun z xs i j => fd_of (ty := 3) (by kernel_rfl) sz3 (by decide) _
theorem fp44_2 : ∀ id ver i j, fieldAddrD Try.prog 44 2 (.ptr id ver i j) = some (.ptr id ver i (j + 2)) := fun id ver i j => fd_of (ty := 3) (by kernel_rfl) sz3 (by decide) _
theorem fq44_2 : ∀ z xs i j, fieldAddrD Try.prog 44 2 (.fptr z xs i j) = some (.fptr z xs i (j + 2)) := fun z xs i j => fd_of (ty := 3) (by kernel_rfl) sz3 (by decide) _
theorem fp62_0 : ∀ id ver i j, fieldAddrD Try.prog 62 0 (.ptr id ver i j) = some (.ptr id ver i (j + 0)) := fun id ver i j => fd_of (ty := 3) (by kernel_rfl) sz3 (by decide) _
theorem fq62_0 : ∀ z xs i j, fieldAddrD Try.prog 62 0 (.fptr z xs i j) = some (.fptr z xs i (j + 0)) := fun z xs i j => fd_of (ty := 3) (by kernel_rfl) sz3 (by decide) _
theorem fp62_1 : ∀ id ver i j, fieldAddrD Try.prog 62 1 (.ptr id ver i j) = some (.ptr id ver i (j + 1)) := fun id ver i j => fd_of (ty := 3) (by kernel_rfl) sz3 (by decide) _
theorem fq62_1 : ∀ z xs i j, fieldAddrD Try.prog 62 1 (.fptr z xs i j) = some (.fptr z xs i (j + 1)) := fun z xs i j => fd_of (ty := 3) (by kernel_rfl) sz3 (by decide) _
theorem fp62_2 : ∀ id ver i j, fieldAddrD Try.prog 62 2 (.ptr id ver i j) = some (.ptr id ver i (j + 2)) := fun id ver i j => fd_of (ty := 24) (by kernel_rfl) sz24 (by decide) _
theorem fq62_2 : ∀ z xs i j, fieldAddrD Try.prog 62 2 (.fptr z xs i j) = some (.fptr z xs i (j + 2)) := fun z xs i j => fd_of (ty := 24) (by kernel_rfl) sz24 (by decide) _
theorem fp62_3 : ∀ id ver i j, fieldAddrD Try.prog 62 3 (.ptr id ver i j) = some (.ptr id ver i (j + 3)) := fun id ver i j => fd_of (ty := 24) (by kernel_rfl) sz24 (by decide) _
theorem fq62_3 : ∀ z xs i j, fieldAddrD Try.prog 62 3 (.fptr z xs i j) = some (.fptr z xs i (j + 3)) := fun z xs i j => fd_of (ty := 24) (by kernel_rfl) sz24 (by decide) _
theorem fp62_4 : ∀ id ver i j, fieldAddrD Try.prog 62 4 (.ptr id ver i j) = some (.ptr id ver i (j + 4)) := fun id ver i j => fd_of (ty := 58) (by kernel_rfl) sz58 (by decide) _
theorem fq62_4 : ∀ z xs i j, fieldAddrD Try.prog 62 4 (.fptr z xs i j) = some (.fptr z xs i (j + 4)) := fun z xs i j => fd_of (ty := 58) (by kernel_rfl) sz58 (by decide) _
theorem fp62_5 : ∀ id ver i j, fieldAddrD Try.prog 62 5 (.ptr id ver i j) = some (.ptr id ver i (j + 5)) := fun id ver i j => fd_of (ty := 3) (by kernel_rfl) sz3 (by decide) _
theorem fq62_5 : ∀ z xs i j, fieldAddrD Try.prog 62 5 (.fptr z xs i j) = some (.fptr z xs i (j + 5)) := fun z xs i j => fd_of (ty := 3) (by kernel_rfl) sz3 (by decide) _
theorem fp62_6 : ∀ id ver i j, fieldAddrD Try.prog 62 6 (.ptr id ver i j) = some (.ptr id ver i (j + 6)) := fun id ver i j => fd_of (ty := 3) (by kernel_rfl) sz3 (by decide) _
theorem fq62_6 : ∀ z xs i j, fieldAddrD Try.prog 62 6 (.fptr z xs i j) = some (.fptr z xs i (j + 6)) := fun z xs i j => fd_of (ty := 3) (by kernel_rfl) sz3 (by decide) _
theorem fp62_7 : ∀ id ver i j, fieldAddrD Try.prog 62 7 (.ptr id ver i j) = some (.ptr id ver i (j + 7)) := fun id ver i j => fd_of (ty := 3) (by kernel_rfl) sz3 (by decide) _
theorem fq62_7 : ∀ z xs i j, fieldAddrD Try.prog 62 7 (.fptr z xs i j) = some (.fptr z xs i (j + 7)) := fun z xs i j => fd_of (ty := 3) (by kernel_rfl) sz3 (by decide) _
theorem fp62_8 : ∀ id ver i j, fieldAddrD Try.prog 62 8 (.ptr id ver i j) = some (.ptr id ver i (j + 8)) := fun id ver i j => fd_of (ty := 3) (by kernel_rfl) sz3 (by decide) _
theorem fq62_8 : ∀ z xs i j, fieldAddrD Try.prog 62 8 (.fptr z xs i j) = some (.fptr z xs i (j + 8)) := fun z xs i j => fd_of (ty := 3) (by kernel_rfl) sz3 (by decide) _
theorem fp62_9 : ∀ id ver i j, fieldAddrD Try.prog 62 9 (.ptr id ver i j) = some (.ptr id ver i (j + 9)) := fun id ver i j => fd_of (ty := 3) (by kernel_rfl) sz3 (by decide) _
theorem fq62_9 : ∀ z xs i j, fieldAddrD Try.prog 62 9 (.fptr z xs i j) = some (.fptr z xs i (j + 9)) := fun z xs i j => fd_of (ty := 3) (by kernel_rfl) sz3 (by decide) _
theorem fp62_10 : ∀ id ver i j, fieldAddrD Try.prog 62 10 (.ptr id ver i j) = some (.ptr id ver i (j + 10)) := fun id ver i j => fd_of (ty := 32) (by kernel_rfl) sz32 (by decide) _
theorem fq62_10 : ∀ z xs i j, fieldAddrD Try.prog 62 10 (.fptr z xs i j) = some (.fptr z xs i (j + 10)) := fun z xs i j => fd_of (ty := 32) (by kernel_rfl) sz32 (by decide) _
theorem fp70_0 : ∀ id ver i j, fieldAddrD Try.prog 70 0 (.ptr id ver i j) = some (.ptr id ver i (j + 0)) := fun id ver i j => fd_of (ty := 23) (by kernel_rfl) sz23 (by decide) _
theorem fq70_0 : ∀ z xs i j, fieldAddrD Try.prog 70 0 (.fptr z xs i j) = some (.fptr z xs i (j + 0)) := fun z xs i j => fd_of (ty := 23) (by kernel_rfl) sz23 (by decide) _
theorem fp70_1 : ∀ id ver i j, fieldAddrD Try.prog 70 1 (.ptr id ver i j) = some (.ptr id ver i (j + 1)) := fun id ver i j => fd_of (ty := 3) (by kernel_rfl) sz3 (by decide) _
theorem fq70_1 : ∀ z xs i j, fieldAddrD Try.prog 70 1 (.fptr z xs i j) = some (.fptr z xs i (j + 1)) := fun z xs i j => fd_of (ty := 3) (by kernel_rfl) sz3 (by decide) _
theorem fp70_2 : ∀ id ver i j, fieldAddrD Try.prog 70 2 (.ptr id ver i j) = some (.ptr id ver i (j + 2)) := fun id ver i j => fd_of (ty := 3) (by kernel_rfl) sz3 (by decide) _
theorem fq70_2 : ∀ z xs i j, fieldAddrD Try.prog 70 2 (.fptr z xs i j) = some (.fptr z xs i (j + 2)) := fun z xs i j => fd_of (ty := 3) (by kernel_rfl) sz3 (by decide) _
theorem fp81_0 : ∀ id ver i j, fieldAddrD Try.prog 81 0 (.ptr id ver i j) = some (.ptr id ver i (j + 0)) := fun id ver i j => fd_of (ty := 23) (by kernel_rfl) sz23 (by decide) _
theorem fq81_0 : ∀ z xs i j, fieldAddrD Try.prog 81 0 (.fptr z xs i j) = some (.fptr z xs i (j + 0)) := fun z xs i j => fd_of (ty := 23) (by kernel_rfl) sz23 (by decide) _
theorem fp81_1 : ∀ id ver i j, fieldAddrD Try.prog 81 1 (.ptr id ver i j) = some (.ptr id ver i (j + 1)) := fun id ver i j => fd_of (ty := 41) (by kernel_rfl) sz41 (by decide) _
theorem fq81_1 : ∀ z xs i j, fieldAddrD Try.prog 81 1 (.fptr z xs i j) = some (.fptr z xs i (j + 1)) := fun z xs i j => fd_of (ty := 41) (by kernel_rfl) sz41 (by decide) _
theorem fp81_2 : ∀ id ver i j, fieldAddrD Try.prog 81 2 (.ptr id ver i j) = some (.ptr id ver i (j + 5)) := fun id ver i j => fd_of (ty := 51) (by kernel_rfl) sz51 (by decide) _
theorem fq81_2 : ∀ z xs i j, fieldAddrD Try.prog 81 2 (.fptr z xs i j) = some (.fptr z xs i (j + 5)) := fun z xs i j => fd_of (ty := 51) (by kernel_rfl) sz51 (by decide) _
theorem fp81_3 : ∀ id ver i j, fieldAddrD Try.prog 81 3 (.ptr id ver i j) = some (.ptr id ver i (j + 6)) := fun id ver i j => fd_of (ty := 79) (by kernel_rfl) sz79 (by decide) _
theorem fq81_3 : ∀ z xs i j, fieldAddrD Try.prog 81 3 (.fptr z xs i j) = some (.fptr z xs i (j + 6)) := fun z xs i j => fd_of (ty := 79) (by kernel_rfl) sz79 (by decide) _
theorem fp81_4 : ∀ id ver i j, fieldAddrD Try.prog 81 4 (.ptr id ver i j) = some (.ptr id ver i (j + 7)) := fun id ver i j => fd_of (ty := 3) (by kernel_rfl) sz3 (by decide) _
theorem fq81_4 : ∀ z xs i j, fieldAddrD Try.prog 81 4 (.fptr z xs i j) = some (.fptr z xs i (j + 7)) := fun z xs i j => fd_of (ty := 3) (by kernel_rfl) sz3 (by decide) _
theorem fp85_0 : ∀ id ver i j, fieldAddrD Try.prog 85 0 (.ptr id ver i j) = some (.ptr id ver i (j + 0)) := fun id ver i j => fd_of (ty := 3) (by kernel_rfl) sz3 (by decide) _
theorem fq85_0 : ∀ z xs i j, fieldAddrD Try.prog 85 0 (.fptr z xs i j) = some (.fptr z xs i (j + 0)) := fun z xs i j => fd_of (ty := 3) (by kernel_rfl) sz3 (by decide) _
theorem fp85_1 : ∀ id ver i j, fieldAddrD Try.prog 85 1 (.ptr id ver i j) = some (.ptr id ver i (j + 1)) := fun id ver i j => fd_of (ty := 3) (by kernel_rfl) sz3 (by decide) _
theorem fq85_1 : ∀ z xs i j, fieldAddrD Try.prog 85 1 (.fptr z xs i j) = some (.fptr z xs i (j + 1)) := fun z xs i j => fd_of (ty := 3) (by kernel_rfl) sz3 (by decide) _
theorem fp85_2 : ∀ id ver i j, fieldAddrD Try.prog 85 2 (.ptr id ver i j) = some (.ptr id ver i (j + 2)) := fun id ver i j => fd_of (ty := 3) (by kernel_rfl) sz3 (by decide) _
theorem fq85_2 : ∀ z xs i j, fieldAddrD Try.prog 85 2 (.fptr z xs i j) = some (.fptr z xs i (j + 2)) := fun z xs i j => fd_of (ty := 3) (by kernel_rfl) sz3 (by decide) _
theorem fp85_3 : ∀ id ver i j, fieldAddrD Try.prog 85 3 (.ptr id ver i j) = some (.ptr id ver i (j + 3)) := fun id ver i j => fd_of (ty := 3) (by kernel_rfl) sz3 (by decide) _
theorem fq85_3 : ∀ z xs i j, fieldAddrD Try.prog 85 3 (.fptr z xs i j) = some (.fptr z xs i (j + 3)) := fun z xs i j => fd_of (ty := 3) (by kernel_rfl) sz3 (by decide) _
theorem fp85_4 : ∀ id ver i j, fieldAddrD Try.prog 85 4 (.ptr id ver i j) = some (.ptr id ver i (j + 4)) := fun id ver i j => fd_of (ty := 24) (by kernel_rfl) sz24 (by decide) _
theorem fq85_4 : ∀ z xs i j, fieldAddrD Try.prog 85 4 (.fptr z xs i j) = some (.fptr z xs i (j + 4)) := fun z xs i j => fd_of (ty := 24) (by kernel_rfl) sz24 (by decide) _
theorem fp105_0 : ∀ id ver i j, fieldAddrD Try.prog 105 0 (.ptr id ver i j) = some (.ptr id ver i (j + 0)) := fun id ver i j => fd_of (ty := 62) (by kernel_rfl) sz62 (by decide) _
theorem fq105_0 : ∀ z xs i j, fieldAddrD Try.prog 105 0 (.fptr z xs i j) = some (.fptr z xs i (j + 0)) := fun z xs i j => fd_of (ty := 62) (by kernel_rfl) sz62 (by decide) _
theorem fp105_1 : ∀ id ver i j, fieldAddrD Try.prog 105 1 (.ptr id ver i j) = some (.ptr id ver i (j + 16)) := fun id ver i j => fd_of (ty := 23) (by kernel_rfl) sz23 (by decide) _
theorem fq105_1 : ∀ z xs i j, fieldAddrD Try.prog 105 1 (.fptr z xs i j) = some (.fptr z xs i (j + 16)) := fun z xs i j => fd_of (ty := 23) (by kernel_rfl) sz23 (by decide) _
theorem fp105_2 : ∀ id ver i j, fieldAddrD Try.prog 105 2 (.ptr id ver i j) = some (.ptr id ver i (j + 17)) := fun id ver i j => fd_of (ty := 44) (by kernel_rfl) sz44 (by decide) _
theorem fq105_2 : ∀ z xs i j, fieldAddrD Try.prog 105 2 (.fptr z xs i j) = some (.fptr z xs i (j + 17)) := fun z xs i j => fd_of (ty := 44) (by kernel_rfl) sz44 (by decide) _
theorem fp105_3 : ∀ id ver i j, fieldAddrD Try.prog 105 3 (.ptr id ver i j) = some (.ptr id ver i (j + 20)) := fun id ver i j => fd_of (ty := 85) (by kernel_rfl) sz85 (by decide) _
theorem fq105_3 : ∀ z xs i j, fieldAddrD Try.prog 105 3 (.fptr z xs i j) = some (.fptr z xs i (j + 20)) := fun z xs i j => fd_of (ty := 85) (by kernel_rfl) sz85 (by decide) _
theorem fp111_0 : ∀ id ver i j, fieldAddrD Try.prog 111 0 (.ptr id ver i j) = some (.ptr id ver i (j + 0)) := fun id ver i j => fd_of (ty := 3) (by kernel_rfl) sz3 (by decide) _
theorem fq111_0 : ∀ z xs i j, fieldAddrD Try.prog 111 0 (.fptr z xs i j) = some (.fptr z xs i (j + 0)) := fun z xs i j => fd_of (ty := 3) (by kernel_rfl) sz3 (by decide) _
theorem fp111_2 : ∀ id ver i j, fieldAddrD Try.prog 111 2 (.ptr id ver i j) = some (.ptr id ver i (j + 3)) := fun id ver i j => fd_of (ty := 32) (by kernel_rfl) sz32 (by decide) _
theorem fq111_2 : ∀ z xs i j, fieldAddrD Try.prog 111 2 (.fptr z xs i j) = some (.fptr z xs i (j + 3)) := fun z xs i j => fd_of (ty := 32) (by kernel_rfl) sz32 (by decide) _
theorem fp120_0 : ∀ id ver i j, fieldAddrD Try.prog 120 0 (.ptr id ver i j) = some (.ptr id ver i (j + 0)) := fun id ver i j => fd_of (ty := 3) (by kernel_rfl) sz3 (by decide) _
theorem fq120_0 : ∀ z xs i j, fieldAddrD Try.prog 120 0 (.fptr z xs i j) = some (.fptr z xs i (j + 0)) := fun z xs i j => fd_of (ty := 3) (by kernel_rfl) sz3 (by decide) _
theorem fp120_1 : ∀ id ver i j, fieldAddrD Try.prog 120 1 (.ptr id ver i j) = some (.ptr id ver i (j + 1)) := fun id ver i j => fd_of (ty := 3) (by kernel_rfl) sz3 (by decide) _
theorem fq120_1 : ∀ z xs i j, fieldAddrD Try.prog 120 1 (.fptr z xs i j) = some (.fptr z xs i (j + 1)) := fun z xs i j => fd_of (ty := 3) (by kernel_rfl) sz3 (by decide) _
theorem fp150_2 : ∀ id ver i j, fieldAddrD Try.prog 150 2 (.ptr id ver i j) = some (.ptr id ver i (j + 2)) := fun id ver i j => fd_of (ty := 3) (by kernel_rfl) sz3 (by decide) _
theorem fq150_2 : ∀ z xs i j, fieldAddrD Try.prog 150 2 (.fptr z xs i j) = some (.fptr z xs i (j + 2)) := fun z xs i j => fd_of (ty := 3) (by kernel_rfl) sz3 (by decide) _
theorem fp150_3 : ∀ id ver i j, fieldAddrD Try.prog 150 3 (.ptr id ver i j) = some (.ptr id ver i (j + 3)) := fun id ver i j => fd_of (ty := 3) (by kernel_rfl) sz3 (by decide) _
theorem fq150_3 : ∀ z xs i j, fieldAddrD Try.prog 150 3 (.fptr z xs i j) = some (.fptr z xs i (j + 3)) := fun z xs i j => fd_of (ty := 3) (by kernel_rfl) sz3 (by decide) _
theorem bu30 : ∀ ps, buildD Try.prog 30 ps = (bldD Try.prog 30 [.int .i64 0, .int .i64 0] ps).map .agg := buildD_eq ze30 (by kernel_rfl)
theorem bc30_0 : ∀ cs v ps, bldD Try.prog 30 cs ((0, v) :: ps) = if v.cells.length = 1 ∧ 0 + 1 ≤ cs.length ∧ v.cells.all D.one = true then bldD Try.prog 30 (cs.take 0 ++ v.cells ++ cs.drop (0 + 1)) ps else none := bld_cons (ty := 3) (by kernel_rfl) sz3
theorem bc30_1 : ∀ cs v ps, bldD Try.prog 30 cs ((1, v) :: ps) = if v.cells.length = 1 ∧ 1 + 1 ≤ cs.length ∧ v.cells.all D.one = true then bldD Try.prog 30 (cs.take 1 ++ v.cells ++ cs.drop (1 + 1)) ps else none := bld_cons (ty := 3) (by kernel_rfl) sz3
theorem bu32 : ∀ ps, buildD Try.prog 32 ps = (bldD Try.prog 32 [.int .i64 0, .int .i64 0, .int .i64 0] ps).map .agg := buildD_eq ze32 (by kernel_rfl)
theorem bc32_0 : ∀ cs v ps, bldD Try.prog 32 cs ((0, v) :: ps) = if v.cells.length = 1 ∧ 0 + 1 ≤ cs.length ∧ v.cells.all D.one = true then bldD Try.prog 32 (cs.take 0 ++ v.cells ++ cs.drop (0 + 1)) ps else none := bld_cons (ty := 3) (by kernel_rfl) sz3
theorem bc32_1 : ∀ cs v ps, bldD Try.prog 32 cs ((1, v) :: ps) = if v.cells.length = 2 ∧ 1 + 2 ≤ cs.length ∧ v.cells.all D.one = true then bldD Try.prog 32 (cs.take 1 ++ v.cells ++ cs.drop (1 + 2)) ps else none := bld_cons (ty := 30) (by kernel_rfl) sz30
theorem bu41 : ∀ ps, buildD Try.prog 41 ps = (bldD Try.prog 41 [.int .i64 0, .int .i64 0, .int .i64 0, .snil] ps).map .agg := buildD_eq ze41 (by kernel_rfl)
theorem bc41_0 : ∀ cs v ps, bldD Try.prog 41 cs ((0, v) :: ps) = if v.cells.length = 1 ∧ 0 + 1 ≤ cs.length ∧ v.cells.all D.one = true then bldD Try.prog 41 (cs.take 0 ++ v.cells ++ cs.drop (0 + 1)) ps else none := bld_cons (ty := 3) (by kernel_rfl) sz3
theorem bc41_1 : ∀ cs v ps, bldD Try.prog 41 cs ((1, v) :: ps) = if v.cells.length = 1 ∧ 1 + 1 ≤ cs.length ∧ v.cells.all D.one = true then bldD Try.prog 41 (cs.take 1 ++ v.cells ++ cs.drop (1 + 1)) ps else none := bld_cons (ty := 3) (by kernel_rfl) sz3
theorem bc41_2 : ∀ cs v ps, bldD Try.prog 41 cs ((2, v) :: ps) = if v.cells.length = 1 ∧ 2 + 1 ≤ cs.length ∧ v.cells.all D.one = true then bldD Try.prog 41 (cs.take 2 ++ v.cells ++ cs.drop (2 + 1)) ps else none := bld_cons (ty := 3) (by kernel_rfl) sz3
theorem bu44 : ∀ ps, buildD Try.prog 44 ps = (bldD Try.prog 44 [.int .i64 0, .int .i64 0, .int .i64 0] ps).map .agg := buildD_eq ze44 (by kernel_rfl)
theorem bc44_0 : ∀ cs v ps, bldD Try.prog 44 cs ((0, v) :: ps) = if v.cells.length = 1 ∧ 0 + 1 ≤ cs.length ∧ v.cells.all D.one = true then bldD Try.prog 44 (cs.take 0 ++ v.cells ++ cs.drop (0 + 1)) ps else none := bld_cons (ty := 3) (by kernel_rfl) sz3
theorem bc44_1 : ∀ cs v ps, bldD Try.prog 44 cs ((1, v) :: ps) = if v.cells.length = 1 ∧ 1 + 1 ≤ cs.length ∧ v.cells.all D.one = true then bldD Try.prog 44 (cs.take 1 ++ v.cells ++ cs.drop (1 + 1)) ps else none := bld_cons (ty := 3) (by kernel_rfl) sz3
theorem bc44_2 : ∀ cs v ps, bldD Try.prog 44 cs ((2, v) :: ps) = if v.cells.length = 1 ∧ 2 + 1 ≤ cs.length ∧ v.cells.all D.one = true then bldD Try.prog 44 (cs.take 2 ++ v.cells ++ cs.drop (2 + 1)) ps else none := bld_cons (ty := 3) (by kernel_rfl) sz3
theorem bu60 : ∀ ps, buildD Try.prog 60 ps = (bldD Try.prog 60 [.int .i64 0, .int .i64 0] ps).map .agg := buildD_eq ze60 (by kernel_rfl)
theorem bc60_0 : ∀ cs v ps, bldD Try.prog 60 cs ((0, v) :: ps) = if v.cells.length = 1 ∧ 0 + 1 ≤ cs.length ∧ v.cells.all D.one = true then bldD Try.prog 60 (cs.take 0 ++ v.cells ++ cs.drop (0 + 1)) ps else none := bld_cons (ty := 3) (by kernel_rfl) sz3
theorem bu62 : ∀ ps, buildD Try.prog 62 ps = (bldD Try.prog 62 [.int .i64 0, .int .i64 0, .snil, .snil, .snil, .int .i64 0, .int .i64 0, .int .i64 0, .int .i64 0, .int .i64 0, .int .i64 0, .int .i64 0, .int .i64 0, .int .i64 0, .int .i64 0, .int .i64 0] ps).map .agg := buildD_eq ze62 (by kernel_rfl)
theorem bc62_0 : ∀ cs v ps, bldD Try.prog 62 cs ((0, v) :: ps) = if v.cells.length = 1 ∧ 0 + 1 ≤ cs.length ∧ v.cells.all D.one = true then bldD Try.prog 62 (cs.take 0 ++ v.cells ++ cs.drop (0 + 1)) ps else none := bld_cons (ty := 3) (by kernel_rfl) sz3
theorem bc62_3 : ∀ cs v ps, bldD Try.prog 62 cs ((3, v) :: ps) = if v.cells.length = 1 ∧ 3 + 1 ≤ cs.length ∧ v.cells.all D.one = true then bldD Try.prog 62 (cs.take 3 ++ v.cells ++ cs.drop (3 + 1)) ps else none := bld_cons (ty := 24) (by kernel_rfl) sz24
theorem bc62_4 : ∀ cs v ps, bldD Try.prog 62 cs ((4, v) :: ps) = if v.cells.length = 1 ∧ 4 + 1 ≤ cs.length ∧ v.cells.all D.one = true then bldD Try.prog 62 (cs.take 4 ++ v.cells ++ cs.drop (4 + 1)) ps else none := bld_cons (ty := 58) (by kernel_rfl) sz58
theorem bc62_5 : ∀ cs v ps, bldD Try.prog 62 cs ((5, v) :: ps) = if v.cells.length = 1 ∧ 5 + 1 ≤ cs.length ∧ v.cells.all D.one = true then bldD Try.prog 62 (cs.take 5 ++ v.cells ++ cs.drop (5 + 1)) ps else none := bld_cons (ty := 3) (by kernel_rfl) sz3
theorem bc62_11 : ∀ cs v ps, bldD Try.prog 62 cs ((11, v) :: ps) = if v.cells.length = 2 ∧ 13 + 2 ≤ cs.length ∧ v.cells.all D.one = true then bldD Try.prog 62 (cs.take 13 ++ v.cells ++ cs.drop (13 + 2)) ps else none := bld_cons (ty := 60) (by kernel_rfl) sz60
theorem bu66 : ∀ ps, buildD Try.prog 66 ps = (bldD Try.prog 66 [] ps).map .agg := buildD_eq ze66 (by kernel_rfl)
theorem bu70 : ∀ ps, buildD Try.prog 70 ps = (bldD Try.prog 70 [.snil, .int .i64 0, .int .i64 0] ps).map .agg := buildD_eq ze70 (by kernel_rfl)
theorem bc70_0 : ∀ cs v ps, bldD Try.prog 70 cs ((0, v) :: ps) = if v.cells.length = 1 ∧ 0 + 1 ≤ cs.length ∧ v.cells.all D.one = true then bldD Try.prog 70 (cs.take 0 ++ v.cells ++ cs.drop (0 + 1)) ps else none := bld_cons (ty := 23) (by kernel_rfl) sz23
theorem bc70_1 : ∀ cs v ps, bldD Try.prog 70 cs ((1, v) :: ps) = if v.cells.length = 1 ∧ 1 + 1 ≤ cs.length ∧ v.cells.all D.one = true then bldD Try.prog 70 (cs.take 1 ++ v.cells ++ cs.drop (1 + 1)) ps else none := bld_cons (ty := 3) (by kernel_rfl) sz3
theorem bu81 : ∀ ps, buildD Try.prog 81 ps = (bldD Try.prog 81 [.snil, .int .i64 0, .int .i64 0, .int .i64 0, .snil, .snil, .snil, .int .i64 0] ps).map .agg := buildD_eq ze81 (by kernel_rfl)
theorem bc81_0 : ∀ cs v ps, bldD Try.prog 81 cs ((0, v) :: ps) = if v.cells.length = 1 ∧ 0 + 1 ≤ cs.length ∧ v.cells.all D.one = true then bldD Try.prog 81 (cs.take 0 ++ v.cells ++ cs.drop (0 + 1)) ps else none := bld_cons (ty := 23) (by kernel_rfl) sz23
theorem bc81_1 : ∀ cs v ps, bldD Try.prog 81 cs ((1, v) :: ps) = if v.cells.length = 4 ∧ 1 + 4 ≤ cs.length ∧ v.cells.all D.one = true then bldD Try.prog 81 (cs.take 1 ++ v.cells ++ cs.drop (1 + 4)) ps else none := bld_cons (ty := 41) (by kernel_rfl) sz41
theorem bc81_2 : ∀ cs v ps, bldD Try.prog 81 cs ((2, v) :: ps) = if v.cells.length = 1 ∧ 5 + 1 ≤ cs.length ∧ v.cells.all D.one = true then bldD Try.prog 81 (cs.take 5 ++ v.cells ++ cs.drop (5 + 1)) ps else none := bld_cons (ty := 51) (by kernel_rfl) sz51
theorem bc81_3 : ∀ cs v ps, bldD Try.prog 81 cs ((3, v) :: ps) = if v.cells.length = 1 ∧ 6 + 1 ≤ cs.length ∧ v.cells.all D.one = true then bldD Try.prog 81 (cs.take 6 ++ v.cells ++ cs.drop (6 + 1)) ps else none := bld_cons (ty := 79) (by kernel_rfl) sz79
theorem bu85 : ∀ ps, buildD Try.prog 85 ps = (bldD Try.prog 85 [.int .i64 0, .int .i64 0, .int .i64 0, .int .i64 0, .snil] ps).map .agg := buildD_eq ze85 (by kernel_rfl)
theorem bc85_0 : ∀ cs v ps, bldD Try.prog 85 cs ((0, v) :: ps) = if v.cells.length = 1 ∧ 0 + 1 ≤ cs.length ∧ v.cells.all D.one = true then bldD Try.prog 85 (cs.take 0 ++ v.cells ++ cs.drop (0 + 1)) ps else none := bld_cons (ty := 3) (by kernel_rfl) sz3
theorem bc85_1 : ∀ cs v ps, bldD Try.prog 85 cs ((1, v) :: ps) = if v.cells.length = 1 ∧ 1 + 1 ≤ cs.length ∧ v.cells.all D.one = true then bldD Try.prog 85 (cs.take 1 ++ v.cells ++ cs.drop (1 + 1)) ps else none := bld_cons (ty := 3) (by kernel_rfl) sz3
theorem bc85_2 : ∀ cs v ps, bldD Try.prog 85 cs ((2, v) :: ps) = if v.cells.length = 1 ∧ 2 + 1 ≤ cs.length ∧ v.cells.all D.one = true then bldD Try.prog 85 (cs.take 2 ++ v.cells ++ cs.drop (2 + 1)) ps else none := bld_cons (ty := 3) (by kernel_rfl) sz3
theorem bc85_3 : ∀ cs v ps, bldD Try.prog 85 cs ((3, v) :: ps) = if v.cells.length = 1 ∧ 3 + 1 ≤ cs.length ∧ v.cells.all D.one = true then bldD Try.prog 85 (cs.take 3 ++ v.cells ++ cs.drop (3 + 1)) ps else none := bld_cons (ty := 3) (by kernel_rfl) sz3
theorem bc85_4 : ∀ cs v ps, bldD Try.prog 85 cs ((4, v) :: ps) = if v.cells.length = 1 ∧ 4 + 1 ≤ cs.length ∧ v.cells.all D.one = true then bldD Try.prog 85 (cs.take 4 ++ v.cells ++ cs.drop (4 + 1)) ps else none := bld_cons (ty := 24) (by kernel_rfl) sz24
theorem bu105 : ∀ ps, buildD Try.prog 105 ps = (bldD Try.prog 105 [.int .i64 0, .int .i64 0, .snil, .snil, .snil, .int .i64 0, .int .i64 0, .int .i64 0, .int .i64 0, .int .i64 0, .int .i64 0, .int .i64 0, .int .i64 0, .int .i64 0, .int .i64 0, .int .i64 0, .snil, .int .i64 0, .int .i64 0, .int .i64 0, .int .i64 0, .int .i64 0, .int .i64 0, .int .i64 0, .snil] ps).map .agg := buildD_eq ze105 (by kernel_rfl)
theorem bc105_0 : ∀ cs v ps, bldD Try.prog 105 cs ((0, v) :: ps) = if v.cells.length = 16 ∧ 0 + 16 ≤ cs.length ∧ v.cells.all D.one = true then bldD Try.prog 105 (cs.take 0 ++ v.cells ++ cs.drop (0 + 16)) ps else none := bld_cons (ty := 62) (by kernel_rfl) sz62
theorem bc105_1 : ∀ cs v ps, bldD Try.prog 105 cs ((1, v) :: ps) = if v.cells.length = 1 ∧ 16 + 1 ≤ cs.length ∧ v.cells.all D.one = true then bldD Try.prog 105 (cs.take 16 ++ v.cells ++ cs.drop (16 + 1)) ps else none := bld_cons (ty := 23) (by kernel_rfl) sz23
theorem bc105_3 : ∀ cs v ps, bldD Try.prog 105 cs ((3, v) :: ps) = if v.cells.length = 5 ∧ 20 + 5 ≤ cs.length ∧ v.cells.all D.one = true then bldD Try.prog 105 (cs.take 20 ++ v.cells ++ cs.drop (20 + 5)) ps else none := bld_cons (ty := 85) (by kernel_rfl) sz85
theorem bu111 : ∀ ps, buildD Try.prog 111 ps = (bldD Try.prog 111 [.int .i64 0, .int .i64 0, .int .i64 0, .int .i64 0, .int .i64 0, .int .i64 0] ps).map .agg := buildD_eq ze111 (by kernel_rfl)
theorem bc111_0 : ∀ cs v ps, bldD Try.prog 111 cs ((0, v) :: ps) = if v.cells.length = 1 ∧ 0 + 1 ≤ cs.length ∧ v.cells.all D.one = true then bldD Try.prog 111 (cs.take 0 ++ v.cells ++ cs.drop (0 + 1)) ps else none := bld_cons (ty := 3) (by kernel_rfl) sz3
theorem bc111_1 : ∀ cs v ps, bldD Try.prog 111 cs ((1, v) :: ps) = if v.cells.length = 2 ∧ 1 + 2 ≤ cs.length ∧ v.cells.all D.one = true then bldD Try.prog 111 (cs.take 1 ++ v.cells ++ cs.drop (1 + 2)) ps else none := bld_cons (ty := 60) (by kernel_rfl) sz60
theorem bc111_2 : ∀ cs v ps, bldD Try.prog 111 cs ((2, v) :: ps) = if v.cells.length = 3 ∧ 3 + 3 ≤ cs.length ∧ v.cells.all D.one = true then bldD Try.prog 111 (cs.take 3 ++ v.cells ++ cs.drop (3 + 3)) ps else none := bld_cons (ty := 32) (by kernel_rfl) sz32
theorem bu120 : ∀ ps, buildD Try.prog 120 ps = (bldD Try.prog 120 [.int .i64 0, .int .i64 0] ps).map .agg := buildD_eq ze120 (by kernel_rfl)
theorem bc120_0 : ∀ cs v ps, bldD Try.prog 120 cs ((0, v) :: ps) = if v.cells.length = 1 ∧ 0 + 1 ≤ cs.length ∧ v.cells.all D.one = true then bldD Try.prog 120 (cs.take 0 ++ v.cells ++ cs.drop (0 + 1)) ps else none := bld_cons (ty := 3) (by kernel_rfl) sz3
theorem bc120_1 : ∀ cs v ps, bldD Try.prog 120 cs ((1, v) :: ps) = if v.cells.length = 1 ∧ 1 + 1 ≤ cs.length ∧ v.cells.all D.one = true then bldD Try.prog 120 (cs.take 1 ++ v.cells ++ cs.drop (1 + 1)) ps else none := bld_cons (ty := 3) (by kernel_rfl) sz3
theorem bu150 : ∀ ps, buildD Try.prog 150 ps = (bldD Try.prog 150 [.str ByteArray.empty, .int .i64 0, .int .i64 0, .int .i64 0] ps).map .agg := buildD_eq ze150 (by kernel_rfl)
theorem bc150_0 : ∀ cs v ps, bldD Try.prog 150 cs ((0, v) :: ps) = if v.cells.length = 1 ∧ 0 + 1 ≤ cs.length ∧ v.cells.all D.one = true then bldD Try.prog 150 (cs.take 0 ++ v.cells ++ cs.drop (0 + 1)) ps else none := bld_cons (ty := 9) (by kernel_rfl) sz9
theorem bc150_1 : ∀ cs v ps, bldD Try.prog 150 cs ((1, v) :: ps) = if v.cells.length = 1 ∧ 1 + 1 ≤ cs.length ∧ v.cells.all D.one = true then bldD Try.prog 150 (cs.take 1 ++ v.cells ++ cs.drop (1 + 1)) ps else none := bld_cons (ty := 3) (by kernel_rfl) sz3
theorem bc150_2 : ∀ cs v ps, bldD Try.prog 150 cs ((2, v) :: ps) = if v.cells.length = 1 ∧ 2 + 1 ≤ cs.length ∧ v.cells.all D.one = true then bldD Try.prog 150 (cs.take 2 ++ v.cells ++ cs.drop (2 + 1)) ps else none := bld_cons (ty := 3) (by kernel_rfl) sz3
theorem bc150_3 : ∀ cs v ps, bldD Try.prog 150 cs ((3, v) :: ps) = if v.cells.length = 1 ∧ 3 + 1 ≤ cs.length ∧ v.cells.all D.one = true then bldD Try.prog 150 (cs.take 3 ++ v.cells ++ cs.drop (3 + 1)) ps else none := bld_cons (ty := 3) (by kernel_rfl) sz3
theorem ft30 : flatT Try.prog 30 = some [1, 1] := by kernel_rfl
theorem ft32 : flatT Try.prog 32 = some [1, 1, 1] := by kernel_rfl
theorem dr4_4 : drawInfo Try.prog cfg (opsAt Try.f4 4) = some [] := by kernel_rfl
theorem dr4_17 : drawInfo Try.prog cfg (opsAt Try.f4 17) = some [] := by kernel_rfl
theorem dr5_18 : drawInfo Try.prog cfg (opsAt Try.f5 18) = some [] := by kernel_rfl
theorem dr6_4 : drawInfo Try.prog cfg (opsAt Try.f6 4) = some [] := by kernel_rfl
theorem dr6_8 : drawInfo Try.prog cfg (opsAt Try.f6 8) = some [] := by kernel_rfl
theorem dr7_4 : drawInfo Try.prog cfg (opsAt Try.f7 4) = some [] := by kernel_rfl
theorem dr8_1 : drawInfo Try.prog cfg (opsAt Try.f8 1) = some [] := by kernel_rfl
theorem dr8_20 : drawInfo Try.prog cfg (opsAt Try.f8 20) = some [] := by kernel_rfl
theorem dr8_22 : drawInfo Try.prog cfg (opsAt Try.f8 22) = some [] := by kernel_rfl
theorem dr11_8 : drawInfo Try.prog cfg (opsAt Try.f11 8) = some [(4, 5)] := by kernel_rfl
theorem dr16_1 : drawInfo Try.prog cfg (opsAt Try.f16 1) = some [] := by kernel_rfl
theorem dr21_9 : drawInfo Try.prog cfg (opsAt Try.f21 9) = some [] := by kernel_rfl
theorem dr22_8 : drawInfo Try.prog cfg (opsAt Try.f22 8) = some [] := by kernel_rfl
theorem dr24_4 : drawInfo Try.prog cfg (opsAt Try.f24 4) = some [] := by kernel_rfl
theorem dr24_7 : drawInfo Try.prog cfg (opsAt Try.f24 7) = some [] := by kernel_rfl
theorem dr24_8 : drawInfo Try.prog cfg (opsAt Try.f24 8) = some [(0, 5), (2, 5)] := by kernel_rfl
theorem dr31_2 : drawInfo Try.prog cfg (opsAt Try.f31 2) = some [(1, 6), (8, 6)] := by kernel_rfl
theorem dr32_1 : drawInfo Try.prog cfg (opsAt Try.f32 1) = some [] := by kernel_rfl
theorem dr35_1 : drawInfo Try.prog cfg (opsAt Try.f35 1) = some [] := by kernel_rfl
theorem dr38_23 : drawInfo Try.prog cfg (opsAt Try.f38 23) = some [(7, 8)] := by kernel_rfl
theorem dr39_4 : drawInfo Try.prog cfg (opsAt Try.f39 4) = some [] := by kernel_rfl
theorem dr42_6 : drawInfo Try.prog cfg (opsAt Try.f42 6) = some [] := by kernel_rfl
theorem dr44_12 : drawInfo Try.prog cfg (opsAt Try.f44 12) = some [] := by kernel_rfl
theorem dr44_16 : drawInfo Try.prog cfg (opsAt Try.f44 16) = some [] := by kernel_rfl
theorem dr51_9 : drawInfo Try.prog cfg (opsAt Try.f51 9) = some [] := by kernel_rfl
theorem dr52_11 : drawInfo Try.prog cfg (opsAt Try.f52 11) = some [] := by kernel_rfl
theorem dr52_15 : drawInfo Try.prog cfg (opsAt Try.f52 15) = some [] := by kernel_rfl
theorem dr56_1 : drawInfo Try.prog cfg (opsAt Try.f56 1) = some [(4, 2), (7, 2), (7, 5)] := by kernel_rfl
theorem dr57_7 : drawInfo Try.prog cfg (opsAt Try.f57 7) = some [] := by kernel_rfl
theorem dr57_9 : drawInfo Try.prog cfg (opsAt Try.f57 9) = some [] := by kernel_rfl
theorem dr57_11 : drawInfo Try.prog cfg (opsAt Try.f57 11) = some [] := by kernel_rfl
theorem dr60_1 : drawInfo Try.prog cfg (opsAt Try.f60 1) = some [(2, 6)] := by kernel_rfl
theorem dr62_0 : drawInfo Try.prog cfg (opsAt Try.f62 0) = some [] := by kernel_rfl
theorem dr62_4 : drawInfo Try.prog cfg (opsAt Try.f62 4) = some [(5, 24), (5, 25), (10, 24), (10, 25)] := by kernel_rfl
theorem dr63_0 : drawInfo Try.prog cfg (opsAt Try.f63 0) = some [] := by kernel_rfl
theorem dr63_6 : drawInfo Try.prog cfg (opsAt Try.f63 6) = some [] := by kernel_rfl
theorem dr64_5 : drawInfo Try.prog cfg (opsAt Try.f64 5) = some [] := by kernel_rfl
theorem dr64_7 : drawInfo Try.prog cfg (opsAt Try.f64 7) = some [] := by kernel_rfl
theorem dr64_9 : drawInfo Try.prog cfg (opsAt Try.f64 9) = some [] := by kernel_rfl
theorem dr64_11 : drawInfo Try.prog cfg (opsAt Try.f64 11) = some [] := by kernel_rfl
theorem dr65_3 : drawInfo Try.prog cfg (opsAt Try.f65 3) = some [] := by kernel_rfl
theorem dr65_5 : drawInfo Try.prog cfg (opsAt Try.f65 5) = some [] := by kernel_rfl
theorem dr65_7 : drawInfo Try.prog cfg (opsAt Try.f65 7) = some [(4, 11), (9, 11)] := by kernel_rfl
theorem dr65_22 : drawInfo Try.prog cfg (opsAt Try.f65 22) = some [] := by kernel_rfl
theorem dr68_6 : drawInfo Try.prog cfg (opsAt Try.f68 6) = some [] := by kernel_rfl
theorem dr71_11 : drawInfo Try.prog cfg (opsAt Try.f71 11) = some [] := by kernel_rfl
theorem dr71_18 : drawInfo Try.prog cfg (opsAt Try.f71 18) = some [] := by kernel_rfl
theorem dr76_4 : drawInfo Try.prog cfg (opsAt Try.f76 4) = some [(1, 2)] := by kernel_rfl
theorem dr76_12 : drawInfo Try.prog cfg (opsAt Try.f76 12) = some [(1, 2)] := by kernel_rfl
theorem dr80_3 : drawInfo Try.prog cfg (opsAt Try.f80 3) = some [] := by kernel_rfl
theorem dr84_2 : drawInfo Try.prog cfg (opsAt Try.f84 2) = some [] := by kernel_rfl
theorem dr85_2 : drawInfo Try.prog cfg (opsAt Try.f85 2) = some [] := by kernel_rfl
theorem dr88_1 : drawInfo Try.prog cfg (opsAt Try.f88 1) = some [] := by kernel_rfl
theorem dr89_1 : drawInfo Try.prog cfg (opsAt Try.f89 1) = some [] := by kernel_rfl
theorem dr90_1 : drawInfo Try.prog cfg (opsAt Try.f90 1) = some [] := by kernel_rfl
theorem dr91_3 : drawInfo Try.prog cfg (opsAt Try.f91 3) = some [] := by kernel_rfl
theorem dr106_1 : drawInfo Try.prog cfg (opsAt Try.f106 1) = some [] := by kernel_rfl
attribute [simp] ag3 sz3 by3 ze3 un3 ag4 sz4 by4 ze4 un4 ag5 sz5 by5 ze5 un5 ag9 sz9 by9 ze9 un9 ag20 sz20 by20 ze20 ag23 sz23 by23 ze23 un23 el23 ag24 sz24 by24 ze24 un24 el24 ag26 sz26 by26 ze26 ag30 sz30 by30 ze30 ag32 sz32 by32 ze32 ag33 sz33 by33 ze33 un33 ag39 sz39 by39 ze39 un39 el39 ag41 sz41 by41 ze41 ag44 sz44 by44 ze44 ag49 sz49 by49 ze49 un49 el49 ag51 sz51 by51 ze51 un51 el51 ag58 sz58 by58 ze58 un58 el58 ag60 sz60 by60 ze60 ag62 sz62 by62 ze62 ag66 sz66 by66 ze66 ag68 sz68 by68 ze68 ag70 sz70 by70 ze70 ag75 sz75 by75 ze75 un75 el75 ag76 sz76 by76 ze76 ag79 sz79 by79 ze79 un79 el79 ag81 sz81 by81 ze81 ag85 sz85 by85 ze85 ag102 sz102 by102 ze102 ag105 sz105 by105 ze105 ag111 sz111 by111 ze111 ag120 sz120 by120 ze120 ag123 sz123 by123 ze123 un123 ag143 sz143 by143 ze143 un143 ag146 sz146 by146 ze146 un146 ag150 sz150 by150 ze150 ag155 sz155 by155 ze155 ag158 sz158 by158 ze158 ag160 sz160 by160 ze160 un160 fp26_0 fq26_0 fp26_1 fq26_1 fp26_2 fq26_2 fp30_0 fq30_0 fp30_1 fq30_1 fp32_0 fq32_0 fp32_1 fq32_1 fp41_0 fq41_0 fp41_1 fq41_1 fp41_2 fq41_2 fp41_3 fq41_3 fp44_0 fq44_0 fp44_1 fq44_1 fp44_2 fq44_2 fp62_0 fq62_0 fp62_1 fq62_1 fp62_2 fq62_2 fp62_3 fq62_3 fp62_4 fq62_4 fp62_5 fq62_5 fp62_6 fq62_6 fp62_7 fq62_7 fp62_8 fq62_8 fp62_9 fq62_9 fp62_10 fq62_10 fp70_0 fq70_0 fp70_1 fq70_1 fp70_2 fq70_2 fp81_0 fq81_0 fp81_1 fq81_1 fp81_2 fq81_2 fp81_3 fq81_3 fp81_4 fq81_4 fp85_0 fq85_0 fp85_1 fq85_1 fp85_2 fq85_2 fp85_3 fq85_3 fp85_4 fq85_4 fp105_0 fq105_0 fp105_1 fq105_1 fp105_2 fq105_2 fp105_3 fq105_3 fp111_0 fq111_0 fp111_2 fq111_2 fp120_0 fq120_0 fp120_1 fq120_1 fp150_2 fq150_2 fp150_3 fq150_3 bu30 bc30_0 bc30_1 bu32 bc32_0 bc32_1 bu41 bc41_0 bc41_1 bc41_2 bu44 bc44_0 bc44_1 bc44_2 bu60 bc60_0 bu62 bc62_0 bc62_3 bc62_4 bc62_5 bc62_11 bu66 bu70 bc70_0 bc70_1 bu81 bc81_0 bc81_1 bc81_2 bc81_3 bu85 bc85_0 bc85_1 bc85_2 bc85_3 bc85_4 bu105 bc105_0 bc105_1 bc105_3 bu111 bc111_0 bc111_1 bc111_2 bu120 bc120_0 bc120_1 bu150 bc150_0 bc150_1 bc150_2 bc150_3 ft30 ft32 sh3 sh4 sh5 sh6 sh7 sh8 sh9 sh10 sh11 sh12 sh13 sh14 sh15 sh16 sh17 sh18 sh19 sh20 sh21 sh22 sh23 sh24 sh25 sh26 sh27 sh28 sh29 sh30 sh31 sh32 sh33 sh34 sh35 sh36 sh37 sh38 sh39 sh40 sh41 sh42 sh43 sh44 sh45 sh46 sh47 sh48 sh49 sh50 sh51 sh52 sh53 sh54 sh55 sh56 sh57 sh58 sh59 sh60 sh61 sh62 sh63 sh64 sh65 sh66 sh67 sh68 sh69 sh70 sh71 sh72 sh73 sh74 sh75 sh76 sh77 sh78 sh79 sh80 sh81 sh82 sh83 sh84 sh85 sh86 sh87 sh88 sh89 sh90 sh91 sh92 sh93 sh94 sh95 sh96 sh97 sh98 sh99 sh100 sh101 sh102 sh103 sh104 sh105 sh106 sh107 sh108 sh109 sh110 sh111 sh112 sh113
attribute [local simp] fits_agg fits_one
theorem lit23_0 (dst ty pos af g st ps) : opD Try.prog cfg R ⟨dst, .buildSlice 23 0 ps, ty, pos, af, g⟩ st = (evps st.σ ps.toList).bind (litK 4 true [] st.h) := lit_eq dst ty pos af g st ps el23 sz41 ag41 ze41 rfl (by simp) (by decide) (by decide)
theorem litn23_0 (dst ty pos af g st ps) : opD Try.prog ⟨cfg.shared, cfg.ext, true, cfg.lit⟩ R ⟨dst, .buildSlice 23 0 ps, ty, pos, af, g⟩ st = (evps st.σ ps.toList).bind (litK 4 true [] st.h) := lit_eq dst ty pos af g st ps el23 sz41 ag41 ze41 rfl (by simp) (by decide) (by decide)
theorem lit24_0 (dst ty pos af g st ps) : opD Try.prog cfg R ⟨dst, .buildSlice 24 0 ps, ty, pos, af, g⟩ st = (evps st.σ ps.toList).bind (litK 2 true [] st.h) := lit_eq dst ty pos af g st ps el24 sz30 ag30 ze30 rfl (by simp) (by decide) (by decide)
theorem litn24_0 (dst ty pos af g st ps) : opD Try.prog ⟨cfg.shared, cfg.ext, true, cfg.lit⟩ R ⟨dst, .buildSlice 24 0 ps, ty, pos, af, g⟩ st = (evps st.σ ps.toList).bind (litK 2 true [] st.h) := lit_eq dst ty pos af g st ps el24 sz30 ag30 ze30 rfl (by simp) (by decide) (by decide)
theorem lit24_1 (dst ty pos af g st ps) : opD Try.prog cfg R ⟨dst, .buildSlice 24 1 ps, ty, pos, af, g⟩ st = (evps st.σ ps.toList).bind (litK 2 true [(.agg [.int .i64 0, .int .i64 0])] st.h) := lit_eq dst ty pos af g st ps el24 sz30 ag30 ze30 rfl (by simp) (by decide) (by decide)
theorem litn24_1 (dst ty pos af g st ps) : opD Try.prog ⟨cfg.shared, cfg.ext, true, cfg.lit⟩ R ⟨dst, .buildSlice 24 1 ps, ty, pos, af, g⟩ st = (evps st.σ ps.toList).bind (litK 2 true [(.agg [.int .i64 0, .int .i64 0])] st.h) := lit_eq dst ty pos af g st ps el24 sz30 ag30 ze30 rfl (by simp) (by decide) (by decide)
theorem lit24_2 (dst ty pos af g st ps) : opD Try.prog cfg R ⟨dst, .buildSlice 24 2 ps, ty, pos, af, g⟩ st = (evps st.σ ps.toList).bind (litK 2 true [(.agg [.int .i64 0, .int .i64 0]), (.agg [.int .i64 0, .int .i64 0])] st.h) := lit_eq dst ty pos af g st ps el24 sz30 ag30 ze30 rfl (by simp) (by decide) (by decide)
theorem litn24_2 (dst ty pos af g st ps) : opD Try.prog ⟨cfg.shared, cfg.ext, true, cfg.lit⟩ R ⟨dst, .buildSlice 24 2 ps, ty, pos, af, g⟩ st = (evps st.σ ps.toList).bind (litK 2 true [(.agg [.int .i64 0, .int .i64 0]), (.agg [.int .i64 0, .int .i64 0])] st.h) := lit_eq dst ty pos af g st ps el24 sz30 ag30 ze30 rfl (by simp) (by decide) (by decide)
theorem lit39_0 (dst ty pos af g st ps) : opD Try.prog cfg R ⟨dst, .buildSlice 39 0 ps, ty, pos, af, g⟩ st = (evps st.σ ps.toList).bind (litK 3 true [] st.h) := lit_eq dst ty pos af g st ps el39 sz44 ag44 ze44 rfl (by simp) (by decide) (by decide)
theorem litn39_0 (dst ty pos af g st ps) : opD Try.prog ⟨cfg.shared, cfg.ext, true, cfg.lit⟩ R ⟨dst, .buildSlice 39 0 ps, ty, pos, af, g⟩ st = (evps st.σ ps.toList).bind (litK 3 true [] st.h) := lit_eq dst ty pos af g st ps el39 sz44 ag44 ze44 rfl (by simp) (by decide) (by decide)
theorem lit39_1 (dst ty pos af g st ps) : opD Try.prog cfg R ⟨dst, .buildSlice 39 1 ps, ty, pos, af, g⟩ st = (evps st.σ ps.toList).bind (litK 3 true [(.agg [.int .i64 0, .int .i64 0, .int .i64 0])] st.h) := lit_eq dst ty pos af g st ps el39 sz44 ag44 ze44 rfl (by simp) (by decide) (by decide)
theorem litn39_1 (dst ty pos af g st ps) : opD Try.prog ⟨cfg.shared, cfg.ext, true, cfg.lit⟩ R ⟨dst, .buildSlice 39 1 ps, ty, pos, af, g⟩ st = (evps st.σ ps.toList).bind (litK 3 true [(.agg [.int .i64 0, .int .i64 0, .int .i64 0])] st.h) := lit_eq dst ty pos af g st ps el39 sz44 ag44 ze44 rfl (by simp) (by decide) (by decide)
theorem lit39_3 (dst ty pos af g st ps) : opD Try.prog cfg R ⟨dst, .buildSlice 39 3 ps, ty, pos, af, g⟩ st = (evps st.σ ps.toList).bind (litK 3 true [(.agg [.int .i64 0, .int .i64 0, .int .i64 0]), (.agg [.int .i64 0, .int .i64 0, .int .i64 0]), (.agg [.int .i64 0, .int .i64 0, .int .i64 0])] st.h) := lit_eq dst ty pos af g st ps el39 sz44 ag44 ze44 rfl (by simp) (by decide) (by decide)
theorem litn39_3 (dst ty pos af g st ps) : opD Try.prog ⟨cfg.shared, cfg.ext, true, cfg.lit⟩ R ⟨dst, .buildSlice 39 3 ps, ty, pos, af, g⟩ st = (evps st.σ ps.toList).bind (litK 3 true [(.agg [.int .i64 0, .int .i64 0, .int .i64 0]), (.agg [.int .i64 0, .int .i64 0, .int .i64 0]), (.agg [.int .i64 0, .int .i64 0, .int .i64 0])] st.h) := lit_eq dst ty pos af g st ps el39 sz44 ag44 ze44 rfl (by simp) (by decide) (by decide)
theorem lit49_0 (dst ty pos af g st ps) : opD Try.prog cfg R ⟨dst, .buildSlice 49 0 ps, ty, pos, af, g⟩ st = (evps st.σ ps.toList).bind (litK 1 false [] st.h) := lit_eq dst ty pos af g st ps el49 sz9 ag9 ze9 rfl (by simp) (by decide) (by decide)
theorem litn49_0 (dst ty pos af g st ps) : opD Try.prog ⟨cfg.shared, cfg.ext, true, cfg.lit⟩ R ⟨dst, .buildSlice 49 0 ps, ty, pos, af, g⟩ st = (evps st.σ ps.toList).bind (litK 1 false [] st.h) := lit_eq dst ty pos af g st ps el49 sz9 ag9 ze9 rfl (by simp) (by decide) (by decide)
theorem lit49_1 (dst ty pos af g st ps) : opD Try.prog cfg R ⟨dst, .buildSlice 49 1 ps, ty, pos, af, g⟩ st = (evps st.σ ps.toList).bind (litK 1 false [(.str ByteArray.empty)] st.h) := lit_eq dst ty pos af g st ps el49 sz9 ag9 ze9 rfl (by simp) (by decide) (by decide)
theorem litn49_1 (dst ty pos af g st ps) : opD Try.prog ⟨cfg.shared, cfg.ext, true, cfg.lit⟩ R ⟨dst, .buildSlice 49 1 ps, ty, pos, af, g⟩ st = (evps st.σ ps.toList).bind (litK 1 false [(.str ByteArray.empty)] st.h) := lit_eq dst ty pos af g st ps el49 sz9 ag9 ze9 rfl (by simp) (by decide) (by decide)
theorem lit49_4 (dst ty pos af g st ps) : opD Try.prog cfg R ⟨dst, .buildSlice 49 4 ps, ty, pos, af, g⟩ st = (evps st.σ ps.toList).bind (litK 1 false [(.str ByteArray.empty), (.str ByteArray.empty), (.str ByteArray.empty), (.str ByteArray.empty)] st.h) := lit_eq dst ty pos af g st ps el49 sz9 ag9 ze9 rfl (by simp) (by decide) (by decide)
theorem litn49_4 (dst ty pos af g st ps) : opD Try.prog ⟨cfg.shared, cfg.ext, true, cfg.lit⟩ R ⟨dst, .buildSlice 49 4 ps, ty, pos, af, g⟩ st = (evps st.σ ps.toList).bind (litK 1 false [(.str ByteArray.empty), (.str ByteArray.empty), (.str ByteArray.empty), (.str ByteArray.empty)] st.h) := lit_eq dst ty pos af g st ps el49 sz9 ag9 ze9 rfl (by simp) (by decide) (by decide)
theorem lit49_17 (dst ty pos af g st ps) : opD Try.prog cfg R ⟨dst, .buildSlice 49 17 ps, ty, pos, af, g⟩ st = (evps st.σ ps.toList).bind (litK 1 false [(.str ByteArray.empty), (.str ByteArray.empty), (.str ByteArray.empty), (.str ByteArray.empty), (.str ByteArray.empty), (.str ByteArray.empty), (.str ByteArray.empty), (.str ByteArray.empty), (.str ByteArray.empty), (.str ByteArray.empty), (.str ByteArray.empty), (.str ByteArray.empty), (.str ByteArray.empty), (.str ByteArray.empty), (.str ByteArray.empty), (.str ByteArray.empty), (.str ByteArray.empty)] st.h) := lit_eq dst ty pos af g st ps el49 sz9 ag9 ze9 rfl (by simp) (by decide) (by decide)
theorem litn49_17 (dst ty pos af g st ps) : opD Try.prog ⟨cfg.shared, cfg.ext, true, cfg.lit⟩ R ⟨dst, .buildSlice 49 17 ps, ty, pos, af, g⟩ st = (evps st.σ ps.toList).bind (litK 1 false [(.str ByteArray.empty), (.str ByteArray.empty), (.str ByteArray.empty), (.str ByteArray.empty), (.str ByteArray.empty), (.str ByteArray.empty), (.str ByteArray.empty), (.str ByteArray.empty), (.str ByteArray.empty), (.str ByteArray.empty), (.str ByteArray.empty), (.str ByteArray.empty), (.str ByteArray.empty), (.str ByteArray.empty), (.str ByteArray.empty), (.str ByteArray.empty), (.str ByteArray.empty)] st.h) := lit_eq dst ty pos af g st ps el49 sz9 ag9 ze9 rfl (by simp) (by decide) (by decide)
theorem lit51_1 (dst ty pos af g st ps) : opD Try.prog cfg R ⟨dst, .buildSlice 51 1 ps, ty, pos, af, g⟩ st = (evps st.σ ps.toList).bind (litK 1 false [(.int .i64 0)] st.h) := lit_eq dst ty pos af g st ps el51 sz3 ag3 ze3 rfl (by simp) (by decide) (by decide)
theorem litn51_1 (dst ty pos af g st ps) : opD Try.prog ⟨cfg.shared, cfg.ext, true, cfg.lit⟩ R ⟨dst, .buildSlice 51 1 ps, ty, pos, af, g⟩ st = (evps st.σ ps.toList).bind (litK 1 false [(.int .i64 0)] st.h) := lit_eq dst ty pos af g st ps el51 sz3 ag3 ze3 rfl (by simp) (by decide) (by decide)
theorem lit51_2 (dst ty pos af g st ps) : opD Try.prog cfg R ⟨dst, .buildSlice 51 2 ps, ty, pos, af, g⟩ st = (evps st.σ ps.toList).bind (litK 1 false [(.int .i64 0), (.int .i64 0)] st.h) := lit_eq dst ty pos af g st ps el51 sz3 ag3 ze3 rfl (by simp) (by decide) (by decide)
theorem litn51_2 (dst ty pos af g st ps) : opD Try.prog ⟨cfg.shared, cfg.ext, true, cfg.lit⟩ R ⟨dst, .buildSlice 51 2 ps, ty, pos, af, g⟩ st = (evps st.σ ps.toList).bind (litK 1 false [(.int .i64 0), (.int .i64 0)] st.h) := lit_eq dst ty pos af g st ps el51 sz3 ag3 ze3 rfl (by simp) (by decide) (by decide)
theorem lit51_4 (dst ty pos af g st ps) : opD Try.prog cfg R ⟨dst, .buildSlice 51 4 ps, ty, pos, af, g⟩ st = (evps st.σ ps.toList).bind (litK 1 false [(.int .i64 0), (.int .i64 0), (.int .i64 0), (.int .i64 0)] st.h) := lit_eq dst ty pos af g st ps el51 sz3 ag3 ze3 rfl (by simp) (by decide) (by decide)
theorem litn51_4 (dst ty pos af g st ps) : opD Try.prog ⟨cfg.shared, cfg.ext, true, cfg.lit⟩ R ⟨dst, .buildSlice 51 4 ps, ty, pos, af, g⟩ st = (evps st.σ ps.toList).bind (litK 1 false [(.int .i64 0), (.int .i64 0), (.int .i64 0), (.int .i64 0)] st.h) := lit_eq dst ty pos af g st ps el51 sz3 ag3 ze3 rfl (by simp) (by decide) (by decide)
theorem lit58_0 (dst ty pos af g st ps) : opD Try.prog cfg R ⟨dst, .buildSlice 58 0 ps, ty, pos, af, g⟩ st = (evps st.σ ps.toList).bind (litK 6 true [] st.h) := lit_eq dst ty pos af g st ps el58 sz111 ag111 ze111 rfl (by simp) (by decide) (by decide)
theorem litn58_0 (dst ty pos af g st ps) : opD Try.prog ⟨cfg.shared, cfg.ext, true, cfg.lit⟩ R ⟨dst, .buildSlice 58 0 ps, ty, pos, af, g⟩ st = (evps st.σ ps.toList).bind (litK 6 true [] st.h) := lit_eq dst ty pos af g st ps el58 sz111 ag111 ze111 rfl (by simp) (by decide) (by decide)
theorem lit75_1 (dst ty pos af g st ps) : opD Try.prog cfg R ⟨dst, .buildSlice 75 1 ps, ty, pos, af, g⟩ st = (evps st.σ ps.toList).bind (litK 1 false [(.int .u8 0)] st.h) := lit_eq dst ty pos af g st ps el75 sz5 ag5 ze5 rfl (by simp) (by decide) (by decide)
theorem litn75_1 (dst ty pos af g st ps) : opD Try.prog ⟨cfg.shared, cfg.ext, true, cfg.lit⟩ R ⟨dst, .buildSlice 75 1 ps, ty, pos, af, g⟩ st = (evps st.σ ps.toList).bind (litK 1 false [(.int .u8 0)] st.h) := lit_eq dst ty pos af g st ps el75 sz5 ag5 ze5 rfl (by simp) (by decide) (by decide)
theorem le9 (h ty) (s : ByteArray) : builtinD Try.prog h .len #[9] ty [.str s] = some (.int .i64 s.size, h) := by simp [builtinD, un9]
theorem le23 (h ty) (x : D) : builtinD Try.prog h .len #[23] ty [x] = (lenS x).map fun (n : Nat) => (D.int .i64 (n : Int), h) := bu_len (t := 23) rfl un23
theorem ap23 (h ty s x) : builtinD Try.prog h .append #[23, 23] ty [s, x] = (elsZ h 4 s).bind fun old => (elsZ h 4 x).bind (apK 48 4 h s old) := app_eq rfl rfl el23 un23 sz41 sz41 by41 ag41 (by simp [zeroOk]) (by decide) (by decide) h ty s x
theorem cp23 (h ty d s) : builtinD Try.prog h .copy #[23, 23] ty [d, s] = (lenS d).bind fun dl => (elsZ h 4 s).bind fun xs => cpN 4 h d (Nat.min xs.length dl) xs := copy_eq rfl el23 sz41 h ty d s
theorem ixs23 (xs tg i) : indexAddrD Try.prog 23 (.sl 4 xs tg) i = (idxD xs.length i).map fun i => .fptr 4 xs i 0 := ixsl_eq un23 sz41 xs tg i
theorem ixo23 (id ver off len i) : indexAddrD Try.prog 23 (.own 4 id ver off len) i = (idxD len i).map fun i => .ptr id ver (off + i) 0 := ixown_eq un23 sz41 id ver off len i
theorem le24 (h ty) (x : D) : builtinD Try.prog h .len #[24] ty [x] = (lenS x).map fun (n : Nat) => (D.int .i64 (n : Int), h) := bu_len (t := 24) rfl un24
theorem ap24 (h ty s x) : builtinD Try.prog h .append #[24, 24] ty [s, x] = (elsZ h 2 s).bind fun old => (elsZ h 2 x).bind (apK 16 2 h s old) := app_eq rfl rfl el24 un24 sz30 sz30 by30 ag30 (by simp [zeroOk]) (by decide) (by decide) h ty s x
theorem cp24 (h ty d s) : builtinD Try.prog h .copy #[24, 24] ty [d, s] = (lenS d).bind fun dl => (elsZ h 2 s).bind fun xs => cpN 2 h d (Nat.min xs.length dl) xs := copy_eq rfl el24 sz30 h ty d s
theorem ixs24 (xs tg i) : indexAddrD Try.prog 24 (.sl 2 xs tg) i = (idxD xs.length i).map fun i => .fptr 2 xs i 0 := ixsl_eq un24 sz30 xs tg i
theorem ixo24 (id ver off len i) : indexAddrD Try.prog 24 (.own 2 id ver off len) i = (idxD len i).map fun i => .ptr id ver (off + i) 0 := ixown_eq un24 sz30 id ver off len i
theorem le39 (h ty) (x : D) : builtinD Try.prog h .len #[39] ty [x] = (lenS x).map fun (n : Nat) => (D.int .i64 (n : Int), h) := bu_len (t := 39) rfl un39
theorem ap39 (h ty s x) : builtinD Try.prog h .append #[39, 39] ty [s, x] = (elsZ h 3 s).bind fun old => (elsZ h 3 x).bind (apK 24 3 h s old) := app_eq rfl rfl el39 un39 sz44 sz44 by44 ag44 (by simp [zeroOk]) (by decide) (by decide) h ty s x
theorem cp39 (h ty d s) : builtinD Try.prog h .copy #[39, 39] ty [d, s] = (lenS d).bind fun dl => (elsZ h 3 s).bind fun xs => cpN 3 h d (Nat.min xs.length dl) xs := copy_eq rfl el39 sz44 h ty d s
theorem ixs39 (xs tg i) : indexAddrD Try.prog 39 (.sl 3 xs tg) i = (idxD xs.length i).map fun i => .fptr 3 xs i 0 := ixsl_eq un39 sz44 xs tg i
theorem ixo39 (id ver off len i) : indexAddrD Try.prog 39 (.own 3 id ver off len) i = (idxD len i).map fun i => .ptr id ver (off + i) 0 := ixown_eq un39 sz44 id ver off len i
theorem le49 (h ty) (x : D) : builtinD Try.prog h .len #[49] ty [x] = (lenS x).map fun (n : Nat) => (D.int .i64 (n : Int), h) := bu_len (t := 49) rfl un49
theorem ap49 (h ty s x) : builtinD Try.prog h .append #[49, 49] ty [s, x] = (elsZ h 1 s).bind fun old => (elsZ h 1 x).bind (apK 16 1 h s old) := app_eq rfl rfl el49 un49 sz9 sz9 by9 ag9 (by simp [zeroOk]) (by decide) (by decide) h ty s x
theorem cp49 (h ty d s) : builtinD Try.prog h .copy #[49, 49] ty [d, s] = (lenS d).bind fun dl => (elsZ h 1 s).bind fun xs => cpN 1 h d (Nat.min xs.length dl) xs := copy_eq rfl el49 sz9 h ty d s
theorem ixs49 (xs tg i) : indexAddrD Try.prog 49 (.sl 1 xs tg) i = (idxD xs.length i).map fun i => .fptr 1 xs i 0 := ixsl_eq un49 sz9 xs tg i
theorem ixo49 (id ver off len i) : indexAddrD Try.prog 49 (.own 1 id ver off len) i = (idxD len i).map fun i => .ptr id ver (off + i) 0 := ixown_eq un49 sz9 id ver off len i
theorem le51 (h ty) (x : D) : builtinD Try.prog h .len #[51] ty [x] = (lenS x).map fun (n : Nat) => (D.int .i64 (n : Int), h) := bu_len (t := 51) rfl un51
theorem ap51 (h ty s x) : builtinD Try.prog h .append #[51, 51] ty [s, x] = (elsZ h 1 s).bind fun old => (elsZ h 1 x).bind (apK 8 1 h s old) := app_eq rfl rfl el51 un51 sz3 sz3 by3 ag3 (by simp [zeroOk]) (by decide) (by decide) h ty s x
theorem cp51 (h ty d s) : builtinD Try.prog h .copy #[51, 51] ty [d, s] = (lenS d).bind fun dl => (elsZ h 1 s).bind fun xs => cpN 1 h d (Nat.min xs.length dl) xs := copy_eq rfl el51 sz3 h ty d s
theorem ixs51 (xs tg i) : indexAddrD Try.prog 51 (.sl 1 xs tg) i = (idxD xs.length i).map fun i => .fptr 1 xs i 0 := ixsl_eq un51 sz3 xs tg i
theorem ixo51 (id ver off len i) : indexAddrD Try.prog 51 (.own 1 id ver off len) i = (idxD len i).map fun i => .ptr id ver (off + i) 0 := ixown_eq un51 sz3 id ver off len i
theorem le58 (h ty) (x : D) : builtinD Try.prog h .len #[58] ty [x] = (lenS x).map fun (n : Nat) => (D.int .i64 (n : Int), h) := bu_len (t := 58) rfl un58
theorem ap58 (h ty s x) : builtinD Try.prog h .append #[58, 58] ty [s, x] = (elsZ h 6 s).bind fun old => (elsZ h 6 x).bind (apK 48 6 h s old) := app_eq rfl rfl el58 un58 sz111 sz111 by111 ag111 (by simp [zeroOk]) (by decide) (by decide) h ty s x
theorem cp58 (h ty d s) : builtinD Try.prog h .copy #[58, 58] ty [d, s] = (lenS d).bind fun dl => (elsZ h 6 s).bind fun xs => cpN 6 h d (Nat.min xs.length dl) xs := copy_eq rfl el58 sz111 h ty d s
theorem ixs58 (xs tg i) : indexAddrD Try.prog 58 (.sl 6 xs tg) i = (idxD xs.length i).map fun i => .fptr 6 xs i 0 := ixsl_eq un58 sz111 xs tg i
theorem ixo58 (id ver off len i) : indexAddrD Try.prog 58 (.own 6 id ver off len) i = (idxD len i).map fun i => .ptr id ver (off + i) 0 := ixown_eq un58 sz111 id ver off len i
theorem le75 (h ty) (x : D) : builtinD Try.prog h .len #[75] ty [x] = (lenS x).map fun (n : Nat) => (D.int .i64 (n : Int), h) := bu_len (t := 75) rfl un75
theorem ap75 (h ty s x) : builtinD Try.prog h .append #[75, 75] ty [s, x] = (elsZ h 1 s).bind fun old => (elsZ h 1 x).bind (apK 1 1 h s old) := app_eq rfl rfl el75 un75 sz5 sz5 by5 ag5 (by simp [zeroOk]) (by decide) (by decide) h ty s x
theorem cp75 (h ty d s) : builtinD Try.prog h .copy #[75, 75] ty [d, s] = (lenS d).bind fun dl => (elsZ h 1 s).bind fun xs => cpN 1 h d (Nat.min xs.length dl) xs := copy_eq rfl el75 sz5 h ty d s
theorem ixs75 (xs tg i) : indexAddrD Try.prog 75 (.sl 1 xs tg) i = (idxD xs.length i).map fun i => .fptr 1 xs i 0 := ixsl_eq un75 sz5 xs tg i
theorem ixo75 (id ver off len i) : indexAddrD Try.prog 75 (.own 1 id ver off len) i = (idxD len i).map fun i => .ptr id ver (off + i) 0 := ixown_eq un75 sz5 id ver off len i
theorem le79 (h ty) (x : D) : builtinD Try.prog h .len #[79] ty [x] = (lenS x).map fun (n : Nat) => (D.int .i64 (n : Int), h) := bu_len (t := 79) rfl un79
theorem ap79 (h ty s x) : builtinD Try.prog h .append #[79, 79] ty [s, x] = (elsZ h 1 s).bind fun old => (elsZ h 1 x).bind (apK 1 1 h s old) := app_eq rfl rfl el79 un79 sz4 sz4 by4 ag4 (by simp [zeroOk]) (by decide) (by decide) h ty s x
theorem cp79 (h ty d s) : builtinD Try.prog h .copy #[79, 79] ty [d, s] = (lenS d).bind fun dl => (elsZ h 1 s).bind fun xs => cpN 1 h d (Nat.min xs.length dl) xs := copy_eq rfl el79 sz4 h ty d s
theorem ixs79 (xs tg i) : indexAddrD Try.prog 79 (.sl 1 xs tg) i = (idxD xs.length i).map fun i => .fptr 1 xs i 0 := ixsl_eq un79 sz4 xs tg i
theorem ixo79 (id ver off len i) : indexAddrD Try.prog 79 (.own 1 id ver off len) i = (idxD len i).map fun i => .ptr id ver (off + i) 0 := ixown_eq un79 sz4 id ver off len i
theorem le160 (h ty) (x : D) : builtinD Try.prog h .len #[160] ty [x] = some (.int .i64 17, h) := by simp [builtinD, un160]
attribute [simp] lit23_0 litn23_0 lit24_0 litn24_0 lit24_1 litn24_1 lit24_2 litn24_2 lit39_0 litn39_0 lit39_1 litn39_1 lit39_3 litn39_3 lit49_0 litn49_0 lit49_1 litn49_1 lit49_4 litn49_4 lit49_17 litn49_17 lit51_1 litn51_1 lit51_2 litn51_2 lit51_4 litn51_4 lit58_0 litn58_0 lit75_1 litn75_1 le9 le23 ap23 cp23 ixs23 ixo23 le24 ap24 cp24 ixs24 ixo24 le39 ap39 cp39 ixs39 ixo39 le49 ap49 cp49 ixs49 ixo49 le51 ap51 cp51 ixs51 ixo51 le58 ap58 cp58 ixs58 ixo58 le75 ap75 cp75 ixs75 ixo75 le79 ap79 cp79 ixs79 ixo79 le160
end Go.Proofs.YtlpadffinfijgaaW.Vm
