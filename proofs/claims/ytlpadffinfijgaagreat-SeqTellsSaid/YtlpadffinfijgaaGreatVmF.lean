/- What the types of this program are, and which regions have their order open: for simp. Printed by facts.py. No conditions. -/
import Derived.Test.YtlpadffinfijgaaGreatVmSim
import Derived.Test.YtlpadffinfijgaaGreatProg
import Derived.KernelRfl
set_option linter.unusedVariables false
set_option linter.unusedSimpArgs false
namespace Go.Proofs.YtlpadffinfijgaaGreatW.Vm
open Go Go.Proofs
def cfg : Cfg := { shared := fun f => f == 13 || f == 19 || f == 20 || f == 25 || f == 37 || f == 43 || f == 44 || f == 45 || f == 48 || f == 49 || f == 50 || f == 51 || f == 52 || f == 53 || f == 54 || f == 55 || f == 56 || f == 57 || f == 63 || f == 65 || f == 68 || f == 69 || f == 70 || f == 72 || f == 81 || f == 82 || f == 83 || f == 84 || f == 85 || f == 87 || f == 89, ext := fun _ => none, lit := fun t n => !((t == 23 && n == 1) || (t == 66 && n == 3)) }
theorem cfg_lit (t n : Nat) : cfg.lit t n = (!((t == 23 && n == 1) || (t == 66 && n == 3))) := rfl
theorem cfg_nomark : cfg.nomark = false := rfl
noncomputable abbrev R : Run := W Tryz.prog cfg
theorem sh3 : cfg.shared 3 = false := by decide
theorem sh4 : cfg.shared 4 = false := by decide
theorem sh5 : cfg.shared 5 = false := by decide
theorem sh6 : cfg.shared 6 = false := by decide
theorem sh7 : cfg.shared 7 = false := by decide
theorem sh8 : cfg.shared 8 = false := by decide
theorem sh9 : cfg.shared 9 = false := by decide
theorem sh10 : cfg.shared 10 = false := by decide
theorem sh11 : cfg.shared 11 = false := by decide
theorem sh12 : cfg.shared 12 = false := by decide
theorem sh13 : cfg.shared 13 = true := by decide
theorem sh14 : cfg.shared 14 = false := by decide
theorem sh15 : cfg.shared 15 = false := by decide
theorem sh16 : cfg.shared 16 = false := by decide
theorem sh17 : cfg.shared 17 = false := by decide
theorem sh18 : cfg.shared 18 = false := by decide
theorem sh19 : cfg.shared 19 = true := by decide
theorem sh20 : cfg.shared 20 = true := by decide
theorem sh21 : cfg.shared 21 = false := by decide
theorem sh22 : cfg.shared 22 = false := by decide
theorem sh23 : cfg.shared 23 = false := by decide
theorem sh24 : cfg.shared 24 = false := by decide
theorem sh25 : cfg.shared 25 = true := by decide
theorem sh26 : cfg.shared 26 = false := by decide
theorem sh27 : cfg.shared 27 = false := by decide
theorem sh28 : cfg.shared 28 = false := by decide
theorem sh29 : cfg.shared 29 = false := by decide
theorem sh30 : cfg.shared 30 = false := by decide
theorem sh31 : cfg.shared 31 = false := by decide
theorem sh32 : cfg.shared 32 = false := by decide
theorem sh33 : cfg.shared 33 = false := by decide
theorem sh34 : cfg.shared 34 = false := by decide
theorem sh35 : cfg.shared 35 = false := by decide
theorem sh36 : cfg.shared 36 = false := by decide
theorem sh37 : cfg.shared 37 = true := by decide
theorem sh38 : cfg.shared 38 = false := by decide
theorem sh39 : cfg.shared 39 = false := by decide
theorem sh40 : cfg.shared 40 = false := by decide
theorem sh41 : cfg.shared 41 = false := by decide
theorem sh42 : cfg.shared 42 = false := by decide
theorem sh43 : cfg.shared 43 = true := by decide
theorem sh44 : cfg.shared 44 = true := by decide
theorem sh45 : cfg.shared 45 = true := by decide
theorem sh46 : cfg.shared 46 = false := by decide
theorem sh47 : cfg.shared 47 = false := by decide
theorem sh48 : cfg.shared 48 = true := by decide
theorem sh49 : cfg.shared 49 = true := by decide
theorem sh50 : cfg.shared 50 = true := by decide
theorem sh51 : cfg.shared 51 = true := by decide
theorem sh52 : cfg.shared 52 = true := by decide
theorem sh53 : cfg.shared 53 = true := by decide
theorem sh54 : cfg.shared 54 = true := by decide
theorem sh55 : cfg.shared 55 = true := by decide
theorem sh56 : cfg.shared 56 = true := by decide
theorem sh57 : cfg.shared 57 = true := by decide
theorem sh58 : cfg.shared 58 = false := by decide
theorem sh59 : cfg.shared 59 = false := by decide
theorem sh60 : cfg.shared 60 = false := by decide
theorem sh61 : cfg.shared 61 = false := by decide
theorem sh62 : cfg.shared 62 = false := by decide
theorem sh63 : cfg.shared 63 = true := by decide
theorem sh64 : cfg.shared 64 = false := by decide
theorem sh65 : cfg.shared 65 = true := by decide
theorem sh66 : cfg.shared 66 = false := by decide
theorem sh67 : cfg.shared 67 = false := by decide
theorem sh68 : cfg.shared 68 = true := by decide
theorem sh69 : cfg.shared 69 = true := by decide
theorem sh70 : cfg.shared 70 = true := by decide
theorem sh71 : cfg.shared 71 = false := by decide
theorem sh72 : cfg.shared 72 = true := by decide
theorem sh73 : cfg.shared 73 = false := by decide
theorem sh74 : cfg.shared 74 = false := by decide
theorem sh75 : cfg.shared 75 = false := by decide
theorem sh76 : cfg.shared 76 = false := by decide
theorem sh77 : cfg.shared 77 = false := by decide
theorem sh78 : cfg.shared 78 = false := by decide
theorem sh79 : cfg.shared 79 = false := by decide
theorem sh80 : cfg.shared 80 = false := by decide
theorem sh81 : cfg.shared 81 = true := by decide
theorem sh82 : cfg.shared 82 = true := by decide
theorem sh83 : cfg.shared 83 = true := by decide
theorem sh84 : cfg.shared 84 = true := by decide
theorem sh85 : cfg.shared 85 = true := by decide
theorem sh86 : cfg.shared 86 = false := by decide
theorem sh87 : cfg.shared 87 = true := by decide
theorem sh88 : cfg.shared 88 = false := by decide
theorem sh89 : cfg.shared 89 = true := by decide
theorem sh90 : cfg.shared 90 = false := by decide
theorem sh91 : cfg.shared 91 = false := by decide
theorem sh92 : cfg.shared 92 = false := by decide
theorem sh93 : cfg.shared 93 = false := by decide
theorem sh94 : cfg.shared 94 = false := by decide
theorem sh95 : cfg.shared 95 = false := by decide
theorem sh96 : cfg.shared 96 = false := by decide
theorem sh97 : cfg.shared 97 = false := by decide
theorem sh98 : cfg.shared 98 = false := by decide
theorem sh99 : cfg.shared 99 = false := by decide
theorem sh100 : cfg.shared 100 = false := by decide
theorem sh101 : cfg.shared 101 = false := by decide
theorem sh102 : cfg.shared 102 = false := by decide
theorem sh103 : cfg.shared 103 = false := by decide
theorem sh104 : cfg.shared 104 = false := by decide
theorem sh105 : cfg.shared 105 = false := by decide
theorem sh106 : cfg.shared 106 = false := by decide
theorem sh107 : cfg.shared 107 = false := by decide
theorem sh108 : cfg.shared 108 = false := by decide
theorem sh109 : cfg.shared 109 = false := by decide
theorem sh110 : cfg.shared 110 = false := by decide
theorem sh111 : cfg.shared 111 = false := by decide
theorem sh112 : cfg.shared 112 = false := by decide
theorem sh113 : cfg.shared 113 = false := by decide
theorem sh114 : cfg.shared 114 = false := by decide
theorem sh115 : cfg.shared 115 = false := by decide
theorem sh116 : cfg.shared 116 = false := by decide
theorem sh117 : cfg.shared 117 = false := by decide
theorem sh118 : cfg.shared 118 = false := by decide
theorem sh119 : cfg.shared 119 = false := by decide
theorem sh120 : cfg.shared 120 = false := by decide
theorem sh121 : cfg.shared 121 = false := by decide
theorem sh122 : cfg.shared 122 = false := by decide
theorem sh123 : cfg.shared 123 = false := by decide
theorem sh124 : cfg.shared 124 = false := by decide
theorem sh125 : cfg.shared 125 = false := by decide
theorem sh126 : cfg.shared 126 = false := by decide
theorem sh127 : cfg.shared 127 = false := by decide
theorem cfg_ext (f : Nat) : cfg.ext f = none := rfl
theorem ag3 : aggT Tryz.prog 3 = some false := by kernel_rfl
theorem sz3 : szT Tryz.prog 3 = some 1 := by kernel_rfl
theorem by3 : byT Tryz.prog 3 = some 8 := by kernel_rfl
theorem ze3 : zeroT Tryz.prog 3 = some (.int .i64 0) := by kernel_rfl
theorem un3 : Tryz.prog.underlying 3 = some (.int .i64) := by kernel_rfl
theorem ag4 : aggT Tryz.prog 4 = some false := by kernel_rfl
theorem sz4 : szT Tryz.prog 4 = some 1 := by kernel_rfl
theorem by4 : byT Tryz.prog 4 = some 1 := by kernel_rfl
theorem ze4 : zeroT Tryz.prog 4 = some (.bool false) := by kernel_rfl
theorem un4 : Tryz.prog.underlying 4 = some .bool := by kernel_rfl
theorem ag5 : aggT Tryz.prog 5 = some false := by kernel_rfl
theorem sz5 : szT Tryz.prog 5 = some 1 := by kernel_rfl
theorem by5 : byT Tryz.prog 5 = some 1 := by kernel_rfl
theorem ze5 : zeroT Tryz.prog 5 = some (.int .u8 0) := by kernel_rfl
theorem un5 : Tryz.prog.underlying 5 = some (.int .u8) := by kernel_rfl
theorem ag9 : aggT Tryz.prog 9 = some false := by kernel_rfl
theorem sz9 : szT Tryz.prog 9 = some 1 := by kernel_rfl
theorem by9 : byT Tryz.prog 9 = some 16 := by kernel_rfl
theorem ze9 : zeroT Tryz.prog 9 = some (.str ByteArray.empty) := by kernel_rfl
theorem un9 : Tryz.prog.underlying 9 = some .string := by kernel_rfl
theorem ag20 : aggT Tryz.prog 20 = some false := by kernel_rfl
theorem sz20 : szT Tryz.prog 20 = some 1 := by kernel_rfl
theorem by20 : byT Tryz.prog 20 = some 16 := by kernel_rfl
theorem ze20 : zeroT Tryz.prog 20 = some (.nili) := by kernel_rfl
theorem ag23 : aggT Tryz.prog 23 = some false := by kernel_rfl
theorem sz23 : szT Tryz.prog 23 = some 1 := by kernel_rfl
theorem by23 : byT Tryz.prog 23 = some 24 := by kernel_rfl
theorem ze23 : zeroT Tryz.prog 23 = some (.snil) := by kernel_rfl
theorem un23 : Tryz.prog.underlying 23 = some (.slice 60) := by kernel_rfl
theorem el23 : elemT Tryz.prog 23 = some 60 := by kernel_rfl
theorem ag24 : aggT Tryz.prog 24 = some false := by kernel_rfl
theorem sz24 : szT Tryz.prog 24 = some 1 := by kernel_rfl
theorem by24 : byT Tryz.prog 24 = some 24 := by kernel_rfl
theorem ze24 : zeroT Tryz.prog 24 = some (.snil) := by kernel_rfl
theorem un24 : Tryz.prog.underlying 24 = some (.slice 30) := by kernel_rfl
theorem el24 : elemT Tryz.prog 24 = some 30 := by kernel_rfl
theorem ag26 : aggT Tryz.prog 26 = some true := by kernel_rfl
theorem sz26 : szT Tryz.prog 26 = some 3 := by kernel_rfl
theorem by26 : byT Tryz.prog 26 = some 56 := by kernel_rfl
theorem ze26 : zeroT Tryz.prog 26 = some (.agg [.snil, .snil, .int .i64 0]) := by kernel_rfl
theorem ag30 : aggT Tryz.prog 30 = some true := by kernel_rfl
theorem sz30 : szT Tryz.prog 30 = some 2 := by kernel_rfl
theorem by30 : byT Tryz.prog 30 = some 16 := by kernel_rfl
theorem ze30 : zeroT Tryz.prog 30 = some (.agg [.int .i64 0, .int .i64 0]) := by kernel_rfl
theorem ag32 : aggT Tryz.prog 32 = some true := by kernel_rfl
theorem sz32 : szT Tryz.prog 32 = some 3 := by kernel_rfl
theorem by32 : byT Tryz.prog 32 = some 24 := by kernel_rfl
theorem ze32 : zeroT Tryz.prog 32 = some (.agg [.int .i64 0, .int .i64 0, .int .i64 0]) := by kernel_rfl
theorem ag33 : aggT Tryz.prog 33 = some false := by kernel_rfl
theorem sz33 : szT Tryz.prog 33 = some 1 := by kernel_rfl
theorem by33 : byT Tryz.prog 33 = some 8 := by kernel_rfl
theorem ze33 : zeroT Tryz.prog 33 = some (.int .i64 0) := by kernel_rfl
theorem un33 : Tryz.prog.underlying 33 = some (.int .i64) := by kernel_rfl
theorem ag41 : aggT Tryz.prog 41 = some false := by kernel_rfl
theorem sz41 : szT Tryz.prog 41 = some 1 := by kernel_rfl
theorem by41 : byT Tryz.prog 41 = some 24 := by kernel_rfl
theorem ze41 : zeroT Tryz.prog 41 = some (.snil) := by kernel_rfl
theorem un41 : Tryz.prog.underlying 41 = some (.slice 82) := by kernel_rfl
theorem el41 : elemT Tryz.prog 41 = some 82 := by kernel_rfl
theorem ag43 : aggT Tryz.prog 43 = some true := by kernel_rfl
theorem sz43 : szT Tryz.prog 43 = some 2 := by kernel_rfl
theorem by43 : byT Tryz.prog 43 = some 16 := by kernel_rfl
theorem ze43 : zeroT Tryz.prog 43 = some (.agg [.int .i64 0, .int .i64 0]) := by kernel_rfl
theorem ag45 : aggT Tryz.prog 45 = some true := by kernel_rfl
theorem sz45 : szT Tryz.prog 45 = some 16 := by kernel_rfl
theorem by45 : byT Tryz.prog 45 = some 176 := by kernel_rfl
theorem ze45 : zeroT Tryz.prog 45 = some (.agg [.int .i64 0, .int .i64 0, .snil, .snil, .snil, .int .i64 0, .int .i64 0, .int .i64 0, .int .i64 0, .int .i64 0, .int .i64 0, .int .i64 0, .int .i64 0, .int .i64 0, .int .i64 0, .int .i64 0]) := by kernel_rfl
theorem ag49 : aggT Tryz.prog 49 = some true := by kernel_rfl
theorem sz49 : szT Tryz.prog 49 = some 0 := by kernel_rfl
theorem by49 : byT Tryz.prog 49 = some 0 := by kernel_rfl
theorem ze49 : zeroT Tryz.prog 49 = some (.agg []) := by kernel_rfl
theorem ag51 : aggT Tryz.prog 51 = some false := by kernel_rfl
theorem sz51 : szT Tryz.prog 51 = some 1 := by kernel_rfl
theorem by51 : byT Tryz.prog 51 = some 8 := by kernel_rfl
theorem ze51 : zeroT Tryz.prog 51 = some (.nil) := by kernel_rfl
theorem ag53 : aggT Tryz.prog 53 = some true := by kernel_rfl
theorem sz53 : szT Tryz.prog 53 = some 3 := by kernel_rfl
theorem by53 : byT Tryz.prog 53 = some 40 := by kernel_rfl
theorem ze53 : zeroT Tryz.prog 53 = some (.agg [.snil, .int .i64 0, .int .i64 0]) := by kernel_rfl
theorem ag58 : aggT Tryz.prog 58 = some false := by kernel_rfl
theorem sz58 : szT Tryz.prog 58 = some 1 := by kernel_rfl
theorem by58 : byT Tryz.prog 58 = some 24 := by kernel_rfl
theorem ze58 : zeroT Tryz.prog 58 = some (.snil) := by kernel_rfl
theorem un58 : Tryz.prog.underlying 58 = some (.slice 91) := by kernel_rfl
theorem el58 : elemT Tryz.prog 58 = some 91 := by kernel_rfl
theorem ag60 : aggT Tryz.prog 60 = some true := by kernel_rfl
theorem sz60 : szT Tryz.prog 60 = some 4 := by kernel_rfl
theorem by60 : byT Tryz.prog 60 = some 48 := by kernel_rfl
theorem ze60 : zeroT Tryz.prog 60 = some (.agg [.int .i64 0, .int .i64 0, .int .i64 0, .snil]) := by kernel_rfl
theorem ag63 : aggT Tryz.prog 63 = some false := by kernel_rfl
theorem sz63 : szT Tryz.prog 63 = some 1 := by kernel_rfl
theorem by63 : byT Tryz.prog 63 = some 8 := by kernel_rfl
theorem ze63 : zeroT Tryz.prog 63 = some (.nil) := by kernel_rfl
theorem ag66 : aggT Tryz.prog 66 = some false := by kernel_rfl
theorem sz66 : szT Tryz.prog 66 = some 1 := by kernel_rfl
theorem by66 : byT Tryz.prog 66 = some 24 := by kernel_rfl
theorem ze66 : zeroT Tryz.prog 66 = some (.snil) := by kernel_rfl
theorem un66 : Tryz.prog.underlying 66 = some (.slice 3) := by kernel_rfl
theorem el66 : elemT Tryz.prog 66 = some 3 := by kernel_rfl
theorem ag67 : aggT Tryz.prog 67 = some false := by kernel_rfl
theorem sz67 : szT Tryz.prog 67 = some 1 := by kernel_rfl
theorem by67 : byT Tryz.prog 67 = some 24 := by kernel_rfl
theorem ze67 : zeroT Tryz.prog 67 = some (.snil) := by kernel_rfl
theorem un67 : Tryz.prog.underlying 67 = some (.slice 4) := by kernel_rfl
theorem el67 : elemT Tryz.prog 67 = some 4 := by kernel_rfl
theorem ag69 : aggT Tryz.prog 69 = some true := by kernel_rfl
theorem sz69 : szT Tryz.prog 69 = some 8 := by kernel_rfl
theorem by69 : byT Tryz.prog 69 = some 128 := by kernel_rfl
theorem ze69 : zeroT Tryz.prog 69 = some (.agg [.snil, .int .i64 0, .int .i64 0, .int .i64 0, .snil, .snil, .snil, .int .i64 0]) := by kernel_rfl
theorem ag74 : aggT Tryz.prog 74 = some true := by kernel_rfl
theorem sz74 : szT Tryz.prog 74 = some 5 := by kernel_rfl
theorem by74 : byT Tryz.prog 74 = some 56 := by kernel_rfl
theorem ze74 : zeroT Tryz.prog 74 = some (.agg [.int .i64 0, .int .i64 0, .int .i64 0, .int .i64 0, .snil]) := by kernel_rfl
theorem ag82 : aggT Tryz.prog 82 = some true := by kernel_rfl
theorem sz82 : szT Tryz.prog 82 = some 6 := by kernel_rfl
theorem by82 : byT Tryz.prog 82 = some 48 := by kernel_rfl
theorem ze82 : zeroT Tryz.prog 82 = some (.agg [.int .i64 0, .int .i64 0, .int .i64 0, .int .i64 0, .int .i64 0, .int .i64 0]) := by kernel_rfl
theorem ag83 : aggT Tryz.prog 83 = some false := by kernel_rfl
theorem sz83 : szT Tryz.prog 83 = some 1 := by kernel_rfl
theorem by83 : byT Tryz.prog 83 = some 24 := by kernel_rfl
theorem ze83 : zeroT Tryz.prog 83 = some (.snil) := by kernel_rfl
theorem un83 : Tryz.prog.underlying 83 = some (.slice 9) := by kernel_rfl
theorem el83 : elemT Tryz.prog 83 = some 9 := by kernel_rfl
theorem ag91 : aggT Tryz.prog 91 = some true := by kernel_rfl
theorem sz91 : szT Tryz.prog 91 = some 3 := by kernel_rfl
theorem by91 : byT Tryz.prog 91 = some 24 := by kernel_rfl
theorem ze91 : zeroT Tryz.prog 91 = some (.agg [.int .i64 0, .int .i64 0, .int .i64 0]) := by kernel_rfl
theorem ag97 : aggT Tryz.prog 97 = some false := by kernel_rfl
theorem sz97 : szT Tryz.prog 97 = some 1 := by kernel_rfl
theorem by97 : byT Tryz.prog 97 = some 8 := by kernel_rfl
theorem ze97 : zeroT Tryz.prog 97 = some (.nil) := by kernel_rfl
theorem ag100 : aggT Tryz.prog 100 = some true := by kernel_rfl
theorem sz100 : szT Tryz.prog 100 = some 25 := by kernel_rfl
theorem by100 : byT Tryz.prog 100 = some 280 := by kernel_rfl
theorem ze100 : zeroT Tryz.prog 100 = some (.agg [.int .i64 0, .int .i64 0, .snil, .snil, .snil, .int .i64 0, .int .i64 0, .int .i64 0, .int .i64 0, .int .i64 0, .int .i64 0, .int .i64 0, .int .i64 0, .int .i64 0, .int .i64 0, .int .i64 0, .snil, .int .i64 0, .int .i64 0, .int .i64 0, .int .i64 0, .int .i64 0, .int .i64 0, .int .i64 0, .snil]) := by kernel_rfl
theorem ag122 : aggT Tryz.prog 122 = some true := by kernel_rfl
theorem sz122 : szT Tryz.prog 122 = some 2 := by kernel_rfl
theorem by122 : byT Tryz.prog 122 = some 16 := by kernel_rfl
theorem ze122 : zeroT Tryz.prog 122 = some (.agg [.int .i64 0, .int .i64 0]) := by kernel_rfl
theorem ag125 : aggT Tryz.prog 125 = some false := by kernel_rfl
theorem sz125 : szT Tryz.prog 125 = some 1 := by kernel_rfl
theorem by125 : byT Tryz.prog 125 = some 8 := by kernel_rfl
theorem ze125 : zeroT Tryz.prog 125 = some (.int .u64 0) := by kernel_rfl
theorem un125 : Tryz.prog.underlying 125 = some (.int .u64) := by kernel_rfl
theorem ag146 : aggT Tryz.prog 146 = some false := by kernel_rfl
theorem sz146 : szT Tryz.prog 146 = some 1 := by kernel_rfl
theorem by146 : byT Tryz.prog 146 = some 4 := by kernel_rfl
theorem ze146 : zeroT Tryz.prog 146 = some (.int .u32 0) := by kernel_rfl
theorem un146 : Tryz.prog.underlying 146 = some (.int .u32) := by kernel_rfl
theorem ag149 : aggT Tryz.prog 149 = some false := by kernel_rfl
theorem sz149 : szT Tryz.prog 149 = some 1 := by kernel_rfl
theorem by149 : byT Tryz.prog 149 = some 8 := by kernel_rfl
theorem ze149 : zeroT Tryz.prog 149 = some (.int .u64 0) := by kernel_rfl
theorem un149 : Tryz.prog.underlying 149 = some (.int .u64) := by kernel_rfl
theorem ag153 : aggT Tryz.prog 153 = some true := by kernel_rfl
theorem sz153 : szT Tryz.prog 153 = some 4 := by kernel_rfl
theorem by153 : byT Tryz.prog 153 = some 40 := by kernel_rfl
theorem ze153 : zeroT Tryz.prog 153 = some (.agg [.str ByteArray.empty, .int .i64 0, .int .i64 0, .int .i64 0]) := by kernel_rfl
theorem ag158 : aggT Tryz.prog 158 = some false := by kernel_rfl
theorem sz158 : szT Tryz.prog 158 = some 1 := by kernel_rfl
theorem by158 : byT Tryz.prog 158 = some 16 := by kernel_rfl
theorem ze158 : zeroT Tryz.prog 158 = some (.cpx .f64 0 0) := by kernel_rfl
theorem ag161 : aggT Tryz.prog 161 = some false := by kernel_rfl
theorem sz161 : szT Tryz.prog 161 = some 1 := by kernel_rfl
theorem by161 : byT Tryz.prog 161 = some 8 := by kernel_rfl
theorem ze161 : zeroT Tryz.prog 161 = some (.flt .f64 0) := by kernel_rfl
theorem ag165 : aggT Tryz.prog 165 = some false := by kernel_rfl
theorem sz165 : szT Tryz.prog 165 = some 1 := by kernel_rfl
theorem by165 : byT Tryz.prog 165 = some 24 := by kernel_rfl
theorem ze165 : zeroT Tryz.prog 165 = some (.snil) := by kernel_rfl
theorem un165 : Tryz.prog.underlying 165 = some (.slice 5) := by kernel_rfl
theorem el165 : elemT Tryz.prog 165 = some 5 := by kernel_rfl
theorem ag166 : aggT Tryz.prog 166 = some true := by kernel_rfl
theorem sz166 : szT Tryz.prog 166 = some 68 := by kernel_rfl
theorem by166 : byT Tryz.prog 166 = some 680 := by kernel_rfl
theorem ze166 : zeroT Tryz.prog 166 = some (.agg [.str ByteArray.empty, .int .i64 0, .int .i64 0, .int .i64 0, .str ByteArray.empty, .int .i64 0, .int .i64 0, .int .i64 0, .str ByteArray.empty, .int .i64 0, .int .i64 0, .int .i64 0, .str ByteArray.empty, .int .i64 0, .int .i64 0, .int .i64 0, .str ByteArray.empty, .int .i64 0, .int .i64 0, .int .i64 0, .str ByteArray.empty, .int .i64 0, .int .i64 0, .int .i64 0, .str ByteArray.empty, .int .i64 0, .int .i64 0, .int .i64 0, .str ByteArray.empty, .int .i64 0, .int .i64 0, .int .i64 0, .str ByteArray.empty, .int .i64 0, .int .i64 0, .int .i64 0, .str ByteArray.empty, .int .i64 0, .int .i64 0, .int .i64 0, .str ByteArray.empty, .int .i64 0, .int .i64 0, .int .i64 0, .str ByteArray.empty, .int .i64 0, .int .i64 0, .int .i64 0, .str ByteArray.empty, .int .i64 0, .int .i64 0, .int .i64 0, .str ByteArray.empty, .int .i64 0, .int .i64 0, .int .i64 0, .str ByteArray.empty, .int .i64 0, .int .i64 0, .int .i64 0, .str ByteArray.empty, .int .i64 0, .int .i64 0, .int .i64 0, .str ByteArray.empty, .int .i64 0, .int .i64 0, .int .i64 0]) := by kernel_rfl
theorem un166 : Tryz.prog.underlying 166 = some (.array 17 153) := by kernel_rfl
theorem fp26_0 : ∀ id ver i j, fieldAddrD Tryz.prog 26 0 (.ptr id ver i j) = some (.ptr id ver i (j + 0)) := fun id ver i j => fd_of (ty := 23) (by kernel_rfl) sz23 (by decide) _
theorem fq26_0 : ∀ z xs i j, fieldAddrD Tryz.prog 26 0 (.fptr z xs i j) = some (.fptr z xs i (j + 0)) := fun z xs i j => fd_of (ty := 23) (by kernel_rfl) sz23 (by decide) _
theorem fp26_1 : ∀ id ver i j, fieldAddrD Tryz.prog 26 1 (.ptr id ver i j) = some (.ptr id ver i (j + 1)) := fun id ver i j => fd_of (ty := 24) (by kernel_rfl) sz24 (by decide) _
theorem fq26_1 : ∀ z xs i j, fieldAddrD Tryz.prog 26 1 (.fptr z xs i j) = some (.fptr z xs i (j + 1)) := fun z xs i j => fd_of (ty := 24) (by kernel_rfl) sz24 (by decide) _
theorem fp26_2 : ∀ id ver i j, fieldAddrD Tryz.prog 26 2 (.ptr id ver i j) = some (.ptr id ver i (j + 2)) := fun id ver i j => fd_of (ty := 3) (by kernel_rfl) sz3 (by decide) _
theorem fq26_2 : ∀ z xs i j, fieldAddrD Tryz.prog 26 2 (.fptr z xs i j) = some (.fptr z xs i (j + 2)) := fun z xs i j => fd_of (ty := 3) (by kernel_rfl) sz3 (by decide) _
theorem fp30_0 : ∀ id ver i j, fieldAddrD Tryz.prog 30 0 (.ptr id ver i j) = some (.ptr id ver i (j + 0)) := fun id ver i j => fd_of (ty := 3) (by kernel_rfl) sz3 (by decide) _
theorem fq30_0 : ∀ z xs i j, fieldAddrD Tryz.prog 30 0 (.fptr z xs i j) = some (.fptr z xs i (j + 0)) := fun z xs i j => fd_of (ty := 3) (by kernel_rfl) sz3 (by decide) _
theorem fp30_1 : ∀ id ver i j, fieldAddrD Tryz.prog 30 1 (.ptr id ver i j) = some (.ptr id ver i (j + 1)) := fun id ver i j => fd_of (ty := 3) (by kernel_rfl) sz3 (by decide) _
theorem fq30_1 : ∀ z xs i j, fieldAddrD Tryz.prog 30 1 (.fptr z xs i j) = some (.fptr z xs i (j + 1)) := fun z xs i j => fd_of (ty := 3) (by kernel_rfl) sz3 (by decide) _
theorem fp32_0 : ∀ id ver i j, fieldAddrD Tryz.prog 32 0 (.ptr id ver i j) = some (.ptr id ver i (j + 0)) := fun id ver i j => fd_of (ty := 3) (by kernel_rfl) sz3 (by decide) _
theorem fq32_0 : ∀ z xs i j, fieldAddrD Tryz.prog 32 0 (.fptr z xs i j) = some (.fptr z xs i (j + 0)) := fun z xs i j => fd_of (ty := 3) (by kernel_rfl) sz3 (by decide) _
theorem fp32_1 : ∀ id ver i j, fieldAddrD Tryz.prog 32 1 (.ptr id ver i j) = some (.ptr id ver i (j + 1)) := fun id ver i j => fd_of (ty := 30) (by kernel_rfl) sz30 (by decide) _
theorem fq32_1 : ∀ z xs i j, fieldAddrD Tryz.prog 32 1 (.fptr z xs i j) = some (.fptr z xs i (j + 1)) := fun z xs i j => fd_of (ty := 30) (by kernel_rfl) sz30 (by decide) _
theorem fp45_0 : ∀ id ver i j, fieldAddrD Tryz.prog 45 0 (.ptr id ver i j) = some (.ptr id ver i (j + 0)) := fun id ver i j => fd_of (ty := 3) (by kernel_rfl) sz3 (by decide) _
theorem fq45_0 : ∀ z xs i j, fieldAddrD Tryz.prog 45 0 (.fptr z xs i j) = some (.fptr z xs i (j + 0)) := fun z xs i j => fd_of (ty := 3) (by kernel_rfl) sz3 (by decide) _
theorem fp45_1 : ∀ id ver i j, fieldAddrD Tryz.prog 45 1 (.ptr id ver i j) = some (.ptr id ver i (j + 1)) := fun id ver i j => fd_of (ty := 3) (by kernel_rfl) sz3 (by decide) _
theorem fq45_1 : ∀ z xs i j, fieldAddrD Tryz.prog 45 1 (.fptr z xs i j) = some (.fptr z xs i (j + 1)) := fun z xs i j => fd_of (ty := 3) (by kernel_rfl) sz3 (by decide) _
theorem fp45_2 : ∀ id ver i j, fieldAddrD Tryz.prog 45 2 (.ptr id ver i j) = some (.ptr id ver i (j + 2)) := fun id ver i j => fd_of (ty := 24) (by kernel_rfl) sz24 (by decide) _
theorem fq45_2 : ∀ z xs i j, fieldAddrD Tryz.prog 45 2 (.fptr z xs i j) = some (.fptr z xs i (j + 2)) := fun z xs i j => fd_of (ty := 24) (by kernel_rfl) sz24 (by decide) _
theorem fp45_3 : ∀ id ver i j, fieldAddrD Tryz.prog 45 3 (.ptr id ver i j) = some (.ptr id ver i (j + 3)) := fun id ver i j => fd_of (ty := 24) (by kernel_rfl) sz24 (by decide) _
theorem fq45_3 : ∀ z xs i j, fieldAddrD Tryz.prog 45 3 (.fptr z xs i j) = some (.fptr z xs i (j + 3)) := fun z xs i j => fd_of (ty := 24) (by kernel_rfl) sz24 (by decide) _
theorem fp45_4 : ∀ id ver i j, fieldAddrD Tryz.prog 45 4 (.ptr id ver i j) = some (.ptr id ver i (j + 4)) := fun id ver i j => fd_of (ty := 41) (by kernel_rfl) sz41 (by decide) _
theorem fq45_4 : ∀ z xs i j, fieldAddrD Tryz.prog 45 4 (.fptr z xs i j) = some (.fptr z xs i (j + 4)) := fun z xs i j => fd_of (ty := 41) (by kernel_rfl) sz41 (by decide) _
theorem fp45_5 : ∀ id ver i j, fieldAddrD Tryz.prog 45 5 (.ptr id ver i j) = some (.ptr id ver i (j + 5)) := fun id ver i j => fd_of (ty := 3) (by kernel_rfl) sz3 (by decide) _
theorem fq45_5 : ∀ z xs i j, fieldAddrD Tryz.prog 45 5 (.fptr z xs i j) = some (.fptr z xs i (j + 5)) := fun z xs i j => fd_of (ty := 3) (by kernel_rfl) sz3 (by decide) _
theorem fp45_6 : ∀ id ver i j, fieldAddrD Tryz.prog 45 6 (.ptr id ver i j) = some (.ptr id ver i (j + 6)) := fun id ver i j => fd_of (ty := 3) (by kernel_rfl) sz3 (by decide) _
theorem fq45_6 : ∀ z xs i j, fieldAddrD Tryz.prog 45 6 (.fptr z xs i j) = some (.fptr z xs i (j + 6)) := fun z xs i j => fd_of (ty := 3) (by kernel_rfl) sz3 (by decide) _
theorem fp45_7 : ∀ id ver i j, fieldAddrD Tryz.prog 45 7 (.ptr id ver i j) = some (.ptr id ver i (j + 7)) := fun id ver i j => fd_of (ty := 3) (by kernel_rfl) sz3 (by decide) _
theorem fq45_7 : ∀ z xs i j, fieldAddrD Tryz.prog 45 7 (.fptr z xs i j) = some (.fptr z xs i (j + 7)) := fun z xs i j => fd_of (ty := 3) (by kernel_rfl) sz3 (by decide) _
theorem fp45_8 : ∀ id ver i j, fieldAddrD Tryz.prog 45 8 (.ptr id ver i j) = some (.ptr id ver i (j + 8)) := fun id ver i j => fd_of (ty := 3) (by kernel_rfl) sz3 (by decide) _
theorem fq45_8 : ∀ z xs i j, fieldAddrD Tryz.prog 45 8 (.fptr z xs i j) = some (.fptr z xs i (j + 8)) := fun z xs i j => fd_of (ty := 3) (by kernel_rfl) sz3 (by decide) _
theorem fp45_9 : ∀ id ver i j, fieldAddrD Tryz.prog 45 9 (.ptr id ver i j) = some (.ptr id ver i (j + 9)) := fun id ver i j => fd_of (ty := 3) (by kernel_rfl) sz3 (by decide) _
theorem fq45_9 : ∀ z xs i j, fieldAddrD Tryz.prog 45 9 (.fptr z xs i j) = some (.fptr z xs i (j + 9)) := fun z xs i j => fd_of (ty := 3) (by kernel_rfl) sz3 (by decide) _
theorem fp45_10 : ∀ id ver i j, fieldAddrD Tryz.prog 45 10 (.ptr id ver i j) = some (.ptr id ver i (j + 10)) := fun id ver i j => fd_of (ty := 32) (by kernel_rfl) sz32 (by decide) _
theorem fq45_10 : ∀ z xs i j, fieldAddrD Tryz.prog 45 10 (.fptr z xs i j) = some (.fptr z xs i (j + 10)) := fun z xs i j => fd_of (ty := 32) (by kernel_rfl) sz32 (by decide) _
theorem fp53_0 : ∀ id ver i j, fieldAddrD Tryz.prog 53 0 (.ptr id ver i j) = some (.ptr id ver i (j + 0)) := fun id ver i j => fd_of (ty := 23) (by kernel_rfl) sz23 (by decide) _
theorem fq53_0 : ∀ z xs i j, fieldAddrD Tryz.prog 53 0 (.fptr z xs i j) = some (.fptr z xs i (j + 0)) := fun z xs i j => fd_of (ty := 23) (by kernel_rfl) sz23 (by decide) _
theorem fp53_1 : ∀ id ver i j, fieldAddrD Tryz.prog 53 1 (.ptr id ver i j) = some (.ptr id ver i (j + 1)) := fun id ver i j => fd_of (ty := 3) (by kernel_rfl) sz3 (by decide) _
theorem fq53_1 : ∀ z xs i j, fieldAddrD Tryz.prog 53 1 (.fptr z xs i j) = some (.fptr z xs i (j + 1)) := fun z xs i j => fd_of (ty := 3) (by kernel_rfl) sz3 (by decide) _
theorem fp53_2 : ∀ id ver i j, fieldAddrD Tryz.prog 53 2 (.ptr id ver i j) = some (.ptr id ver i (j + 2)) := fun id ver i j => fd_of (ty := 3) (by kernel_rfl) sz3 (by decide) _
theorem fq53_2 : ∀ z xs i j, fieldAddrD Tryz.prog 53 2 (.fptr z xs i j) = some (.fptr z xs i (j + 2)) := fun z xs i j => fd_of (ty := 3) (by kernel_rfl) sz3 (by decide) _
theorem fp60_0 : ∀ id ver i j, fieldAddrD Tryz.prog 60 0 (.ptr id ver i j) = some (.ptr id ver i (j + 0)) := fun id ver i j => fd_of (ty := 3) (by kernel_rfl) sz3 (by decide) _
theorem fq60_0 : ∀ z xs i j, fieldAddrD Tryz.prog 60 0 (.fptr z xs i j) = some (.fptr z xs i (j + 0)) := fun z xs i j => fd_of (ty := 3) (by kernel_rfl) sz3 (by decide) _
theorem fp60_1 : ∀ id ver i j, fieldAddrD Tryz.prog 60 1 (.ptr id ver i j) = some (.ptr id ver i (j + 1)) := fun id ver i j => fd_of (ty := 3) (by kernel_rfl) sz3 (by decide) _
theorem fq60_1 : ∀ z xs i j, fieldAddrD Tryz.prog 60 1 (.fptr z xs i j) = some (.fptr z xs i (j + 1)) := fun z xs i j => fd_of (ty := 3) (by kernel_rfl) sz3 (by decide) _
theorem fp60_2 : ∀ id ver i j, fieldAddrD Tryz.prog 60 2 (.ptr id ver i j) = some (.ptr id ver i (j + 2)) := fun id ver i j => fd_of (ty := 3) (by kernel_rfl) sz3 (by decide) _
theorem fq60_2 : ∀ z xs i j, fieldAddrD Tryz.prog 60 2 (.fptr z xs i j) = some (.fptr z xs i (j + 2)) := fun z xs i j => fd_of (ty := 3) (by kernel_rfl) sz3 (by decide) _
theorem fp60_3 : ∀ id ver i j, fieldAddrD Tryz.prog 60 3 (.ptr id ver i j) = some (.ptr id ver i (j + 3)) := fun id ver i j => fd_of (ty := 58) (by kernel_rfl) sz58 (by decide) _
theorem fq60_3 : ∀ z xs i j, fieldAddrD Tryz.prog 60 3 (.fptr z xs i j) = some (.fptr z xs i (j + 3)) := fun z xs i j => fd_of (ty := 58) (by kernel_rfl) sz58 (by decide) _
theorem fp69_0 : ∀ id ver i j, fieldAddrD Tryz.prog 69 0 (.ptr id ver i j) = some (.ptr id ver i (j + 0)) := fun id ver i j => fd_of (ty := 23) (by kernel_rfl) sz23 (by decide) _
theorem fq69_0 : ∀ z xs i j, fieldAddrD Tryz.prog 69 0 (.fptr z xs i j) = some (.fptr z xs i (j + 0)) := fun z xs i j => fd_of (ty := 23) (by kernel_rfl) sz23 (by decide) _
theorem fp69_1 : ∀ id ver i j, fieldAddrD Tryz.prog 69 1 (.ptr id ver i j) = some (.ptr id ver i (j + 1)) := fun id ver i j => fd_of (ty := 60) (by kernel_rfl) sz60 (by decide) _
theorem fq69_1 : ∀ z xs i j, fieldAddrD Tryz.prog 69 1 (.fptr z xs i j) = some (.fptr z xs i (j + 1)) := fun z xs i j => fd_of (ty := 60) (by kernel_rfl) sz60 (by decide) _
theorem fp69_2 : ∀ id ver i j, fieldAddrD Tryz.prog 69 2 (.ptr id ver i j) = some (.ptr id ver i (j + 5)) := fun id ver i j => fd_of (ty := 66) (by kernel_rfl) sz66 (by decide) _
theorem fq69_2 : ∀ z xs i j, fieldAddrD Tryz.prog 69 2 (.fptr z xs i j) = some (.fptr z xs i (j + 5)) := fun z xs i j => fd_of (ty := 66) (by kernel_rfl) sz66 (by decide) _
theorem fp69_3 : ∀ id ver i j, fieldAddrD Tryz.prog 69 3 (.ptr id ver i j) = some (.ptr id ver i (j + 6)) := fun id ver i j => fd_of (ty := 67) (by kernel_rfl) sz67 (by decide) _
theorem fq69_3 : ∀ z xs i j, fieldAddrD Tryz.prog 69 3 (.fptr z xs i j) = some (.fptr z xs i (j + 6)) := fun z xs i j => fd_of (ty := 67) (by kernel_rfl) sz67 (by decide) _
theorem fp69_4 : ∀ id ver i j, fieldAddrD Tryz.prog 69 4 (.ptr id ver i j) = some (.ptr id ver i (j + 7)) := fun id ver i j => fd_of (ty := 3) (by kernel_rfl) sz3 (by decide) _
theorem fq69_4 : ∀ z xs i j, fieldAddrD Tryz.prog 69 4 (.fptr z xs i j) = some (.fptr z xs i (j + 7)) := fun z xs i j => fd_of (ty := 3) (by kernel_rfl) sz3 (by decide) _
theorem fp74_0 : ∀ id ver i j, fieldAddrD Tryz.prog 74 0 (.ptr id ver i j) = some (.ptr id ver i (j + 0)) := fun id ver i j => fd_of (ty := 3) (by kernel_rfl) sz3 (by decide) _
theorem fq74_0 : ∀ z xs i j, fieldAddrD Tryz.prog 74 0 (.fptr z xs i j) = some (.fptr z xs i (j + 0)) := fun z xs i j => fd_of (ty := 3) (by kernel_rfl) sz3 (by decide) _
theorem fp74_1 : ∀ id ver i j, fieldAddrD Tryz.prog 74 1 (.ptr id ver i j) = some (.ptr id ver i (j + 1)) := fun id ver i j => fd_of (ty := 3) (by kernel_rfl) sz3 (by decide) _
theorem fq74_1 : ∀ z xs i j, fieldAddrD Tryz.prog 74 1 (.fptr z xs i j) = some (.fptr z xs i (j + 1)) := fun z xs i j => fd_of (ty := 3) (by kernel_rfl) sz3 (by decide) _
theorem fp74_2 : ∀ id ver i j, fieldAddrD Tryz.prog 74 2 (.ptr id ver i j) = some (.ptr id ver i (j + 2)) := fun id ver i j => fd_of (ty := 3) (by kernel_rfl) sz3 (by decide) _
theorem fq74_2 : ∀ z xs i j, fieldAddrD Tryz.prog 74 2 (.fptr z xs i j) = some (.fptr z xs i (j + 2)) := fun z xs i j => fd_of (ty := 3) (by kernel_rfl) sz3 (by decide) _
theorem fp74_3 : ∀ id ver i j, fieldAddrD Tryz.prog 74 3 (.ptr id ver i j) = some (.ptr id ver i (j + 3)) := fun id ver i j => fd_of (ty := 3) (by kernel_rfl) sz3 (by decide) _
theorem fq74_3 : ∀ z xs i j, fieldAddrD Tryz.prog 74 3 (.fptr z xs i j) = some (.fptr z xs i (j + 3)) := fun z xs i j => fd_of (ty := 3) (by kernel_rfl) sz3 (by decide) _
theorem fp74_4 : ∀ id ver i j, fieldAddrD Tryz.prog 74 4 (.ptr id ver i j) = some (.ptr id ver i (j + 4)) := fun id ver i j => fd_of (ty := 24) (by kernel_rfl) sz24 (by decide) _
theorem fq74_4 : ∀ z xs i j, fieldAddrD Tryz.prog 74 4 (.fptr z xs i j) = some (.fptr z xs i (j + 4)) := fun z xs i j => fd_of (ty := 24) (by kernel_rfl) sz24 (by decide) _
theorem fp82_0 : ∀ id ver i j, fieldAddrD Tryz.prog 82 0 (.ptr id ver i j) = some (.ptr id ver i (j + 0)) := fun id ver i j => fd_of (ty := 3) (by kernel_rfl) sz3 (by decide) _
theorem fq82_0 : ∀ z xs i j, fieldAddrD Tryz.prog 82 0 (.fptr z xs i j) = some (.fptr z xs i (j + 0)) := fun z xs i j => fd_of (ty := 3) (by kernel_rfl) sz3 (by decide) _
theorem fp82_2 : ∀ id ver i j, fieldAddrD Tryz.prog 82 2 (.ptr id ver i j) = some (.ptr id ver i (j + 3)) := fun id ver i j => fd_of (ty := 32) (by kernel_rfl) sz32 (by decide) _
theorem fq82_2 : ∀ z xs i j, fieldAddrD Tryz.prog 82 2 (.fptr z xs i j) = some (.fptr z xs i (j + 3)) := fun z xs i j => fd_of (ty := 32) (by kernel_rfl) sz32 (by decide) _
theorem fp91_0 : ∀ id ver i j, fieldAddrD Tryz.prog 91 0 (.ptr id ver i j) = some (.ptr id ver i (j + 0)) := fun id ver i j => fd_of (ty := 3) (by kernel_rfl) sz3 (by decide) _
theorem fq91_0 : ∀ z xs i j, fieldAddrD Tryz.prog 91 0 (.fptr z xs i j) = some (.fptr z xs i (j + 0)) := fun z xs i j => fd_of (ty := 3) (by kernel_rfl) sz3 (by decide) _
theorem fp91_1 : ∀ id ver i j, fieldAddrD Tryz.prog 91 1 (.ptr id ver i j) = some (.ptr id ver i (j + 1)) := fun id ver i j => fd_of (ty := 3) (by kernel_rfl) sz3 (by decide) _
theorem fq91_1 : ∀ z xs i j, fieldAddrD Tryz.prog 91 1 (.fptr z xs i j) = some (.fptr z xs i (j + 1)) := fun z xs i j => fd_of (ty := 3) (by kernel_rfl) sz3 (by decide) _
theorem fp91_2 : ∀ id ver i j, fieldAddrD Tryz.prog 91 2 (.ptr id ver i j) = some (.ptr id ver i (j + 2)) := fun id ver i j => fd_of (ty := 3) (by kernel_rfl) sz3 (by decide) _
theorem fq91_2 : ∀ z xs i j, fieldAddrD Tryz.prog 91 2 (.fptr z xs i j) = some (.fptr z xs i (j + 2)) := fun z xs i j => fd_of (ty := 3) (by kernel_rfl) sz3 (by decide) _
theorem fp100_0 : ∀ id ver i j, fieldAddrD Tryz.prog 100 0 (.ptr id ver i j) = some (.ptr id ver i (j + 0)) := fun id ver i j => fd_of (ty := 45) (by kernel_rfl) sz45 (by decide) _
theorem fq100_0 : ∀ z xs i j, fieldAddrD Tryz.prog 100 0 (.fptr z xs i j) = some (.fptr z xs i (j + 0)) := fun z xs i j => fd_of (ty := 45) (by kernel_rfl) sz45 (by decide) _
theorem fp100_1 : ∀ id ver i j, fieldAddrD Tryz.prog 100 1 (.ptr id ver i j) = some (.ptr id ver i (j + 16)) := fun id ver i j => fd_of (ty := 23) (by kernel_rfl) sz23 (by decide) _
theorem fq100_1 : ∀ z xs i j, fieldAddrD Tryz.prog 100 1 (.fptr z xs i j) = some (.fptr z xs i (j + 16)) := fun z xs i j => fd_of (ty := 23) (by kernel_rfl) sz23 (by decide) _
theorem fp100_2 : ∀ id ver i j, fieldAddrD Tryz.prog 100 2 (.ptr id ver i j) = some (.ptr id ver i (j + 17)) := fun id ver i j => fd_of (ty := 91) (by kernel_rfl) sz91 (by decide) _
theorem fq100_2 : ∀ z xs i j, fieldAddrD Tryz.prog 100 2 (.fptr z xs i j) = some (.fptr z xs i (j + 17)) := fun z xs i j => fd_of (ty := 91) (by kernel_rfl) sz91 (by decide) _
theorem fp100_3 : ∀ id ver i j, fieldAddrD Tryz.prog 100 3 (.ptr id ver i j) = some (.ptr id ver i (j + 20)) := fun id ver i j => fd_of (ty := 74) (by kernel_rfl) sz74 (by decide) _
theorem fq100_3 : ∀ z xs i j, fieldAddrD Tryz.prog 100 3 (.fptr z xs i j) = some (.fptr z xs i (j + 20)) := fun z xs i j => fd_of (ty := 74) (by kernel_rfl) sz74 (by decide) _
theorem fp122_0 : ∀ id ver i j, fieldAddrD Tryz.prog 122 0 (.ptr id ver i j) = some (.ptr id ver i (j + 0)) := fun id ver i j => fd_of (ty := 3) (by kernel_rfl) sz3 (by decide) _
theorem fq122_0 : ∀ z xs i j, fieldAddrD Tryz.prog 122 0 (.fptr z xs i j) = some (.fptr z xs i (j + 0)) := fun z xs i j => fd_of (ty := 3) (by kernel_rfl) sz3 (by decide) _
theorem fp122_1 : ∀ id ver i j, fieldAddrD Tryz.prog 122 1 (.ptr id ver i j) = some (.ptr id ver i (j + 1)) := fun id ver i j => fd_of (ty := 3) (by kernel_rfl) sz3 (by decide) _
theorem fq122_1 : ∀ z xs i j, fieldAddrD Tryz.prog 122 1 (.fptr z xs i j) = some (.fptr z xs i (j + 1)) := fun z xs i j => fd_of (ty := 3) (by kernel_rfl) sz3 (by decide) _
theorem fp153_2 : ∀ id ver i j, fieldAddrD Tryz.prog 153 2 (.ptr id ver i j) = some (.ptr id ver i (j + 2)) := fun id ver i j => fd_of (ty := 3) (by kernel_rfl) sz3 (by decide) _
theorem fq153_2 : ∀ z xs i j, fieldAddrD Tryz.prog 153 2 (.fptr z xs i j) = some (.fptr z xs i (j + 2)) := fun z xs i j => fd_of (ty := 3) (by kernel_rfl) sz3 (by decide) _
theorem fp153_3 : ∀ id ver i j, fieldAddrD Tryz.prog 153 3 (.ptr id ver i j) = some (.ptr id ver i (j + 3)) := fun id ver i j => fd_of (ty := 3) (by kernel_rfl) sz3 (by decide) _
theorem fq153_3 : ∀ z xs i j, fieldAddrD Tryz.prog 153 3 (.fptr z xs i j) = some (.fptr z xs i (j + 3)) := fun z xs i j => fd_of (ty := 3) (by kernel_rfl) sz3 (by decide) _
theorem bu30 : ∀ ps, buildD Tryz.prog 30 ps = (bldD Tryz.prog 30 [.int .i64 0, .int .i64 0] ps).map .agg := buildD_eq ze30 (by kernel_rfl)
theorem bc30_0 : ∀ cs v ps, bldD Tryz.prog 30 cs ((0, v) :: ps) = if v.cells.length = 1 ∧ 0 + 1 ≤ cs.length ∧ v.cells.all D.one = true then bldD Tryz.prog 30 (cs.take 0 ++ v.cells ++ cs.drop (0 + 1)) ps else none := bld_cons (ty := 3) (by kernel_rfl) sz3
theorem bc30_1 : ∀ cs v ps, bldD Tryz.prog 30 cs ((1, v) :: ps) = if v.cells.length = 1 ∧ 1 + 1 ≤ cs.length ∧ v.cells.all D.one = true then bldD Tryz.prog 30 (cs.take 1 ++ v.cells ++ cs.drop (1 + 1)) ps else none := bld_cons (ty := 3) (by kernel_rfl) sz3
theorem bu32 : ∀ ps, buildD Tryz.prog 32 ps = (bldD Tryz.prog 32 [.int .i64 0, .int .i64 0, .int .i64 0] ps).map .agg := buildD_eq ze32 (by kernel_rfl)
theorem bc32_0 : ∀ cs v ps, bldD Tryz.prog 32 cs ((0, v) :: ps) = if v.cells.length = 1 ∧ 0 + 1 ≤ cs.length ∧ v.cells.all D.one = true then bldD Tryz.prog 32 (cs.take 0 ++ v.cells ++ cs.drop (0 + 1)) ps else none := bld_cons (ty := 3) (by kernel_rfl) sz3
theorem bc32_1 : ∀ cs v ps, bldD Tryz.prog 32 cs ((1, v) :: ps) = if v.cells.length = 2 ∧ 1 + 2 ≤ cs.length ∧ v.cells.all D.one = true then bldD Tryz.prog 32 (cs.take 1 ++ v.cells ++ cs.drop (1 + 2)) ps else none := bld_cons (ty := 30) (by kernel_rfl) sz30
theorem bu43 : ∀ ps, buildD Tryz.prog 43 ps = (bldD Tryz.prog 43 [.int .i64 0, .int .i64 0] ps).map .agg := buildD_eq ze43 (by kernel_rfl)
theorem bc43_0 : ∀ cs v ps, bldD Tryz.prog 43 cs ((0, v) :: ps) = if v.cells.length = 1 ∧ 0 + 1 ≤ cs.length ∧ v.cells.all D.one = true then bldD Tryz.prog 43 (cs.take 0 ++ v.cells ++ cs.drop (0 + 1)) ps else none := bld_cons (ty := 3) (by kernel_rfl) sz3
theorem bu45 : ∀ ps, buildD Tryz.prog 45 ps = (bldD Tryz.prog 45 [.int .i64 0, .int .i64 0, .snil, .snil, .snil, .int .i64 0, .int .i64 0, .int .i64 0, .int .i64 0, .int .i64 0, .int .i64 0, .int .i64 0, .int .i64 0, .int .i64 0, .int .i64 0, .int .i64 0] ps).map .agg := buildD_eq ze45 (by kernel_rfl)
theorem bc45_0 : ∀ cs v ps, bldD Tryz.prog 45 cs ((0, v) :: ps) = if v.cells.length = 1 ∧ 0 + 1 ≤ cs.length ∧ v.cells.all D.one = true then bldD Tryz.prog 45 (cs.take 0 ++ v.cells ++ cs.drop (0 + 1)) ps else none := bld_cons (ty := 3) (by kernel_rfl) sz3
theorem bc45_3 : ∀ cs v ps, bldD Tryz.prog 45 cs ((3, v) :: ps) = if v.cells.length = 1 ∧ 3 + 1 ≤ cs.length ∧ v.cells.all D.one = true then bldD Tryz.prog 45 (cs.take 3 ++ v.cells ++ cs.drop (3 + 1)) ps else none := bld_cons (ty := 24) (by kernel_rfl) sz24
theorem bc45_4 : ∀ cs v ps, bldD Tryz.prog 45 cs ((4, v) :: ps) = if v.cells.length = 1 ∧ 4 + 1 ≤ cs.length ∧ v.cells.all D.one = true then bldD Tryz.prog 45 (cs.take 4 ++ v.cells ++ cs.drop (4 + 1)) ps else none := bld_cons (ty := 41) (by kernel_rfl) sz41
theorem bc45_5 : ∀ cs v ps, bldD Tryz.prog 45 cs ((5, v) :: ps) = if v.cells.length = 1 ∧ 5 + 1 ≤ cs.length ∧ v.cells.all D.one = true then bldD Tryz.prog 45 (cs.take 5 ++ v.cells ++ cs.drop (5 + 1)) ps else none := bld_cons (ty := 3) (by kernel_rfl) sz3
theorem bc45_11 : ∀ cs v ps, bldD Tryz.prog 45 cs ((11, v) :: ps) = if v.cells.length = 2 ∧ 13 + 2 ≤ cs.length ∧ v.cells.all D.one = true then bldD Tryz.prog 45 (cs.take 13 ++ v.cells ++ cs.drop (13 + 2)) ps else none := bld_cons (ty := 43) (by kernel_rfl) sz43
theorem bu49 : ∀ ps, buildD Tryz.prog 49 ps = (bldD Tryz.prog 49 [] ps).map .agg := buildD_eq ze49 (by kernel_rfl)
theorem bu53 : ∀ ps, buildD Tryz.prog 53 ps = (bldD Tryz.prog 53 [.snil, .int .i64 0, .int .i64 0] ps).map .agg := buildD_eq ze53 (by kernel_rfl)
theorem bc53_0 : ∀ cs v ps, bldD Tryz.prog 53 cs ((0, v) :: ps) = if v.cells.length = 1 ∧ 0 + 1 ≤ cs.length ∧ v.cells.all D.one = true then bldD Tryz.prog 53 (cs.take 0 ++ v.cells ++ cs.drop (0 + 1)) ps else none := bld_cons (ty := 23) (by kernel_rfl) sz23
theorem bc53_1 : ∀ cs v ps, bldD Tryz.prog 53 cs ((1, v) :: ps) = if v.cells.length = 1 ∧ 1 + 1 ≤ cs.length ∧ v.cells.all D.one = true then bldD Tryz.prog 53 (cs.take 1 ++ v.cells ++ cs.drop (1 + 1)) ps else none := bld_cons (ty := 3) (by kernel_rfl) sz3
theorem bu60 : ∀ ps, buildD Tryz.prog 60 ps = (bldD Tryz.prog 60 [.int .i64 0, .int .i64 0, .int .i64 0, .snil] ps).map .agg := buildD_eq ze60 (by kernel_rfl)
theorem bc60_0 : ∀ cs v ps, bldD Tryz.prog 60 cs ((0, v) :: ps) = if v.cells.length = 1 ∧ 0 + 1 ≤ cs.length ∧ v.cells.all D.one = true then bldD Tryz.prog 60 (cs.take 0 ++ v.cells ++ cs.drop (0 + 1)) ps else none := bld_cons (ty := 3) (by kernel_rfl) sz3
theorem bc60_1 : ∀ cs v ps, bldD Tryz.prog 60 cs ((1, v) :: ps) = if v.cells.length = 1 ∧ 1 + 1 ≤ cs.length ∧ v.cells.all D.one = true then bldD Tryz.prog 60 (cs.take 1 ++ v.cells ++ cs.drop (1 + 1)) ps else none := bld_cons (ty := 3) (by kernel_rfl) sz3
theorem bc60_2 : ∀ cs v ps, bldD Tryz.prog 60 cs ((2, v) :: ps) = if v.cells.length = 1 ∧ 2 + 1 ≤ cs.length ∧ v.cells.all D.one = true then bldD Tryz.prog 60 (cs.take 2 ++ v.cells ++ cs.drop (2 + 1)) ps else none := bld_cons (ty := 3) (by kernel_rfl) sz3
theorem bu69 : ∀ ps, buildD Tryz.prog 69 ps = (bldD Tryz.prog 69 [.snil, .int .i64 0, .int .i64 0, .int .i64 0, .snil, .snil, .snil, .int .i64 0] ps).map .agg := buildD_eq ze69 (by kernel_rfl)
theorem bc69_0 : ∀ cs v ps, bldD Tryz.prog 69 cs ((0, v) :: ps) = if v.cells.length = 1 ∧ 0 + 1 ≤ cs.length ∧ v.cells.all D.one = true then bldD Tryz.prog 69 (cs.take 0 ++ v.cells ++ cs.drop (0 + 1)) ps else none := bld_cons (ty := 23) (by kernel_rfl) sz23
theorem bc69_1 : ∀ cs v ps, bldD Tryz.prog 69 cs ((1, v) :: ps) = if v.cells.length = 4 ∧ 1 + 4 ≤ cs.length ∧ v.cells.all D.one = true then bldD Tryz.prog 69 (cs.take 1 ++ v.cells ++ cs.drop (1 + 4)) ps else none := bld_cons (ty := 60) (by kernel_rfl) sz60
theorem bc69_2 : ∀ cs v ps, bldD Tryz.prog 69 cs ((2, v) :: ps) = if v.cells.length = 1 ∧ 5 + 1 ≤ cs.length ∧ v.cells.all D.one = true then bldD Tryz.prog 69 (cs.take 5 ++ v.cells ++ cs.drop (5 + 1)) ps else none := bld_cons (ty := 66) (by kernel_rfl) sz66
theorem bc69_3 : ∀ cs v ps, bldD Tryz.prog 69 cs ((3, v) :: ps) = if v.cells.length = 1 ∧ 6 + 1 ≤ cs.length ∧ v.cells.all D.one = true then bldD Tryz.prog 69 (cs.take 6 ++ v.cells ++ cs.drop (6 + 1)) ps else none := bld_cons (ty := 67) (by kernel_rfl) sz67
theorem bu74 : ∀ ps, buildD Tryz.prog 74 ps = (bldD Tryz.prog 74 [.int .i64 0, .int .i64 0, .int .i64 0, .int .i64 0, .snil] ps).map .agg := buildD_eq ze74 (by kernel_rfl)
theorem bc74_0 : ∀ cs v ps, bldD Tryz.prog 74 cs ((0, v) :: ps) = if v.cells.length = 1 ∧ 0 + 1 ≤ cs.length ∧ v.cells.all D.one = true then bldD Tryz.prog 74 (cs.take 0 ++ v.cells ++ cs.drop (0 + 1)) ps else none := bld_cons (ty := 3) (by kernel_rfl) sz3
theorem bc74_1 : ∀ cs v ps, bldD Tryz.prog 74 cs ((1, v) :: ps) = if v.cells.length = 1 ∧ 1 + 1 ≤ cs.length ∧ v.cells.all D.one = true then bldD Tryz.prog 74 (cs.take 1 ++ v.cells ++ cs.drop (1 + 1)) ps else none := bld_cons (ty := 3) (by kernel_rfl) sz3
theorem bc74_2 : ∀ cs v ps, bldD Tryz.prog 74 cs ((2, v) :: ps) = if v.cells.length = 1 ∧ 2 + 1 ≤ cs.length ∧ v.cells.all D.one = true then bldD Tryz.prog 74 (cs.take 2 ++ v.cells ++ cs.drop (2 + 1)) ps else none := bld_cons (ty := 3) (by kernel_rfl) sz3
theorem bc74_3 : ∀ cs v ps, bldD Tryz.prog 74 cs ((3, v) :: ps) = if v.cells.length = 1 ∧ 3 + 1 ≤ cs.length ∧ v.cells.all D.one = true then bldD Tryz.prog 74 (cs.take 3 ++ v.cells ++ cs.drop (3 + 1)) ps else none := bld_cons (ty := 3) (by kernel_rfl) sz3
theorem bc74_4 : ∀ cs v ps, bldD Tryz.prog 74 cs ((4, v) :: ps) = if v.cells.length = 1 ∧ 4 + 1 ≤ cs.length ∧ v.cells.all D.one = true then bldD Tryz.prog 74 (cs.take 4 ++ v.cells ++ cs.drop (4 + 1)) ps else none := bld_cons (ty := 24) (by kernel_rfl) sz24
theorem bu82 : ∀ ps, buildD Tryz.prog 82 ps = (bldD Tryz.prog 82 [.int .i64 0, .int .i64 0, .int .i64 0, .int .i64 0, .int .i64 0, .int .i64 0] ps).map .agg := buildD_eq ze82 (by kernel_rfl)
theorem bc82_0 : ∀ cs v ps, bldD Tryz.prog 82 cs ((0, v) :: ps) = if v.cells.length = 1 ∧ 0 + 1 ≤ cs.length ∧ v.cells.all D.one = true then bldD Tryz.prog 82 (cs.take 0 ++ v.cells ++ cs.drop (0 + 1)) ps else none := bld_cons (ty := 3) (by kernel_rfl) sz3
theorem bc82_1 : ∀ cs v ps, bldD Tryz.prog 82 cs ((1, v) :: ps) = if v.cells.length = 2 ∧ 1 + 2 ≤ cs.length ∧ v.cells.all D.one = true then bldD Tryz.prog 82 (cs.take 1 ++ v.cells ++ cs.drop (1 + 2)) ps else none := bld_cons (ty := 43) (by kernel_rfl) sz43
theorem bc82_2 : ∀ cs v ps, bldD Tryz.prog 82 cs ((2, v) :: ps) = if v.cells.length = 3 ∧ 3 + 3 ≤ cs.length ∧ v.cells.all D.one = true then bldD Tryz.prog 82 (cs.take 3 ++ v.cells ++ cs.drop (3 + 3)) ps else none := bld_cons (ty := 32) (by kernel_rfl) sz32
theorem bu91 : ∀ ps, buildD Tryz.prog 91 ps = (bldD Tryz.prog 91 [.int .i64 0, .int .i64 0, .int .i64 0] ps).map .agg := buildD_eq ze91 (by kernel_rfl)
theorem bc91_0 : ∀ cs v ps, bldD Tryz.prog 91 cs ((0, v) :: ps) = if v.cells.length = 1 ∧ 0 + 1 ≤ cs.length ∧ v.cells.all D.one = true then bldD Tryz.prog 91 (cs.take 0 ++ v.cells ++ cs.drop (0 + 1)) ps else none := bld_cons (ty := 3) (by kernel_rfl) sz3
theorem bc91_1 : ∀ cs v ps, bldD Tryz.prog 91 cs ((1, v) :: ps) = if v.cells.length = 1 ∧ 1 + 1 ≤ cs.length ∧ v.cells.all D.one = true then bldD Tryz.prog 91 (cs.take 1 ++ v.cells ++ cs.drop (1 + 1)) ps else none := bld_cons (ty := 3) (by kernel_rfl) sz3
theorem bc91_2 : ∀ cs v ps, bldD Tryz.prog 91 cs ((2, v) :: ps) = if v.cells.length = 1 ∧ 2 + 1 ≤ cs.length ∧ v.cells.all D.one = true then bldD Tryz.prog 91 (cs.take 2 ++ v.cells ++ cs.drop (2 + 1)) ps else none := bld_cons (ty := 3) (by kernel_rfl) sz3
theorem bu100 : ∀ ps, buildD Tryz.prog 100 ps = (bldD Tryz.prog 100 [.int .i64 0, .int .i64 0, .snil, .snil, .snil, .int .i64 0, .int .i64 0, .int .i64 0, .int .i64 0, .int .i64 0, .int .i64 0, .int .i64 0, .int .i64 0, .int .i64 0, .int .i64 0, .int .i64 0, .snil, .int .i64 0, .int .i64 0, .int .i64 0, .int .i64 0, .int .i64 0, .int .i64 0, .int .i64 0, .snil] ps).map .agg := buildD_eq ze100 (by kernel_rfl)
theorem bc100_0 : ∀ cs v ps, bldD Tryz.prog 100 cs ((0, v) :: ps) = if v.cells.length = 16 ∧ 0 + 16 ≤ cs.length ∧ v.cells.all D.one = true then bldD Tryz.prog 100 (cs.take 0 ++ v.cells ++ cs.drop (0 + 16)) ps else none := bld_cons (ty := 45) (by kernel_rfl) sz45
theorem bc100_1 : ∀ cs v ps, bldD Tryz.prog 100 cs ((1, v) :: ps) = if v.cells.length = 1 ∧ 16 + 1 ≤ cs.length ∧ v.cells.all D.one = true then bldD Tryz.prog 100 (cs.take 16 ++ v.cells ++ cs.drop (16 + 1)) ps else none := bld_cons (ty := 23) (by kernel_rfl) sz23
theorem bc100_3 : ∀ cs v ps, bldD Tryz.prog 100 cs ((3, v) :: ps) = if v.cells.length = 5 ∧ 20 + 5 ≤ cs.length ∧ v.cells.all D.one = true then bldD Tryz.prog 100 (cs.take 20 ++ v.cells ++ cs.drop (20 + 5)) ps else none := bld_cons (ty := 74) (by kernel_rfl) sz74
theorem bu122 : ∀ ps, buildD Tryz.prog 122 ps = (bldD Tryz.prog 122 [.int .i64 0, .int .i64 0] ps).map .agg := buildD_eq ze122 (by kernel_rfl)
theorem bc122_0 : ∀ cs v ps, bldD Tryz.prog 122 cs ((0, v) :: ps) = if v.cells.length = 1 ∧ 0 + 1 ≤ cs.length ∧ v.cells.all D.one = true then bldD Tryz.prog 122 (cs.take 0 ++ v.cells ++ cs.drop (0 + 1)) ps else none := bld_cons (ty := 3) (by kernel_rfl) sz3
theorem bc122_1 : ∀ cs v ps, bldD Tryz.prog 122 cs ((1, v) :: ps) = if v.cells.length = 1 ∧ 1 + 1 ≤ cs.length ∧ v.cells.all D.one = true then bldD Tryz.prog 122 (cs.take 1 ++ v.cells ++ cs.drop (1 + 1)) ps else none := bld_cons (ty := 3) (by kernel_rfl) sz3
theorem bu153 : ∀ ps, buildD Tryz.prog 153 ps = (bldD Tryz.prog 153 [.str ByteArray.empty, .int .i64 0, .int .i64 0, .int .i64 0] ps).map .agg := buildD_eq ze153 (by kernel_rfl)
theorem bc153_0 : ∀ cs v ps, bldD Tryz.prog 153 cs ((0, v) :: ps) = if v.cells.length = 1 ∧ 0 + 1 ≤ cs.length ∧ v.cells.all D.one = true then bldD Tryz.prog 153 (cs.take 0 ++ v.cells ++ cs.drop (0 + 1)) ps else none := bld_cons (ty := 9) (by kernel_rfl) sz9
theorem bc153_1 : ∀ cs v ps, bldD Tryz.prog 153 cs ((1, v) :: ps) = if v.cells.length = 1 ∧ 1 + 1 ≤ cs.length ∧ v.cells.all D.one = true then bldD Tryz.prog 153 (cs.take 1 ++ v.cells ++ cs.drop (1 + 1)) ps else none := bld_cons (ty := 3) (by kernel_rfl) sz3
theorem bc153_2 : ∀ cs v ps, bldD Tryz.prog 153 cs ((2, v) :: ps) = if v.cells.length = 1 ∧ 2 + 1 ≤ cs.length ∧ v.cells.all D.one = true then bldD Tryz.prog 153 (cs.take 2 ++ v.cells ++ cs.drop (2 + 1)) ps else none := bld_cons (ty := 3) (by kernel_rfl) sz3
theorem bc153_3 : ∀ cs v ps, bldD Tryz.prog 153 cs ((3, v) :: ps) = if v.cells.length = 1 ∧ 3 + 1 ≤ cs.length ∧ v.cells.all D.one = true then bldD Tryz.prog 153 (cs.take 3 ++ v.cells ++ cs.drop (3 + 1)) ps else none := bld_cons (ty := 3) (by kernel_rfl) sz3
theorem ft30 : flatT Tryz.prog 30 = some [1, 1] := by kernel_rfl
theorem ft32 : flatT Tryz.prog 32 = some [1, 1, 1] := by kernel_rfl
theorem dr6_8 : drawInfo Tryz.prog cfg (opsAt Tryz.f6 8) = some [(4, 5)] := by kernel_rfl
theorem dr10_9 : drawInfo Tryz.prog cfg (opsAt Tryz.f10 9) = some [] := by kernel_rfl
theorem dr11_8 : drawInfo Tryz.prog cfg (opsAt Tryz.f11 8) = some [] := by kernel_rfl
theorem dr13_4 : drawInfo Tryz.prog cfg (opsAt Tryz.f13 4) = some [] := by kernel_rfl
theorem dr13_7 : drawInfo Tryz.prog cfg (opsAt Tryz.f13 7) = some [] := by kernel_rfl
theorem dr13_8 : drawInfo Tryz.prog cfg (opsAt Tryz.f13 8) = some [(0, 5), (2, 5)] := by kernel_rfl
theorem dr19_2 : drawInfo Tryz.prog cfg (opsAt Tryz.f19 2) = some [(1, 6), (8, 6)] := by kernel_rfl
theorem dr20_1 : drawInfo Tryz.prog cfg (opsAt Tryz.f20 1) = some [] := by kernel_rfl
theorem dr23_1 : drawInfo Tryz.prog cfg (opsAt Tryz.f23 1) = some [] := by kernel_rfl
theorem dr26_23 : drawInfo Tryz.prog cfg (opsAt Tryz.f26 23) = some [(7, 8)] := by kernel_rfl
theorem dr27_4 : drawInfo Tryz.prog cfg (opsAt Tryz.f27 4) = some [] := by kernel_rfl
theorem dr33_5 : drawInfo Tryz.prog cfg (opsAt Tryz.f33 5) = some [] := by kernel_rfl
theorem dr33_20 : drawInfo Tryz.prog cfg (opsAt Tryz.f33 20) = some [] := by kernel_rfl
theorem dr33_24 : drawInfo Tryz.prog cfg (opsAt Tryz.f33 24) = some [] := by kernel_rfl
theorem dr33_27 : drawInfo Tryz.prog cfg (opsAt Tryz.f33 27) = some [(1, 7)] := by kernel_rfl
theorem dr33_29 : drawInfo Tryz.prog cfg (opsAt Tryz.f33 29) = some [] := by kernel_rfl
theorem dr33_33 : drawInfo Tryz.prog cfg (opsAt Tryz.f33 33) = some [] := by kernel_rfl
theorem dr37_12 : drawInfo Tryz.prog cfg (opsAt Tryz.f37 12) = some [] := by kernel_rfl
theorem dr37_16 : drawInfo Tryz.prog cfg (opsAt Tryz.f37 16) = some [] := by kernel_rfl
theorem dr43_9 : drawInfo Tryz.prog cfg (opsAt Tryz.f43 9) = some [] := by kernel_rfl
theorem dr44_11 : drawInfo Tryz.prog cfg (opsAt Tryz.f44 11) = some [] := by kernel_rfl
theorem dr44_15 : drawInfo Tryz.prog cfg (opsAt Tryz.f44 15) = some [] := by kernel_rfl
theorem dr48_1 : drawInfo Tryz.prog cfg (opsAt Tryz.f48 1) = some [(4, 2), (7, 2), (7, 5)] := by kernel_rfl
theorem dr49_7 : drawInfo Tryz.prog cfg (opsAt Tryz.f49 7) = some [] := by kernel_rfl
theorem dr49_9 : drawInfo Tryz.prog cfg (opsAt Tryz.f49 9) = some [] := by kernel_rfl
theorem dr49_11 : drawInfo Tryz.prog cfg (opsAt Tryz.f49 11) = some [] := by kernel_rfl
theorem dr52_1 : drawInfo Tryz.prog cfg (opsAt Tryz.f52 1) = some [(2, 6)] := by kernel_rfl
theorem dr54_0 : drawInfo Tryz.prog cfg (opsAt Tryz.f54 0) = some [] := by kernel_rfl
theorem dr54_4 : drawInfo Tryz.prog cfg (opsAt Tryz.f54 4) = some [(5, 24), (5, 25), (10, 24), (10, 25)] := by kernel_rfl
theorem dr55_0 : drawInfo Tryz.prog cfg (opsAt Tryz.f55 0) = some [] := by kernel_rfl
theorem dr55_6 : drawInfo Tryz.prog cfg (opsAt Tryz.f55 6) = some [] := by kernel_rfl
theorem dr56_5 : drawInfo Tryz.prog cfg (opsAt Tryz.f56 5) = some [] := by kernel_rfl
theorem dr56_7 : drawInfo Tryz.prog cfg (opsAt Tryz.f56 7) = some [] := by kernel_rfl
theorem dr56_9 : drawInfo Tryz.prog cfg (opsAt Tryz.f56 9) = some [] := by kernel_rfl
theorem dr56_11 : drawInfo Tryz.prog cfg (opsAt Tryz.f56 11) = some [] := by kernel_rfl
theorem dr57_3 : drawInfo Tryz.prog cfg (opsAt Tryz.f57 3) = some [] := by kernel_rfl
theorem dr57_5 : drawInfo Tryz.prog cfg (opsAt Tryz.f57 5) = some [] := by kernel_rfl
theorem dr57_7 : drawInfo Tryz.prog cfg (opsAt Tryz.f57 7) = some [(4, 11), (9, 11)] := by kernel_rfl
theorem dr57_22 : drawInfo Tryz.prog cfg (opsAt Tryz.f57 22) = some [] := by kernel_rfl
theorem dr60_6 : drawInfo Tryz.prog cfg (opsAt Tryz.f60 6) = some [] := by kernel_rfl
theorem dr62_6 : drawInfo Tryz.prog cfg (opsAt Tryz.f62 6) = some [] := by kernel_rfl
theorem dr68_5 : drawInfo Tryz.prog cfg (opsAt Tryz.f68 5) = some [] := by kernel_rfl
theorem dr68_8 : drawInfo Tryz.prog cfg (opsAt Tryz.f68 8) = some [(1, 2)] := by kernel_rfl
theorem dr71_5 : drawInfo Tryz.prog cfg (opsAt Tryz.f71 5) = some [] := by kernel_rfl
theorem dr72_7 : drawInfo Tryz.prog cfg (opsAt Tryz.f72 7) = some [] := by kernel_rfl
theorem dr72_9 : drawInfo Tryz.prog cfg (opsAt Tryz.f72 9) = some [] := by kernel_rfl
theorem dr72_11 : drawInfo Tryz.prog cfg (opsAt Tryz.f72 11) = some [] := by kernel_rfl
theorem dr72_13 : drawInfo Tryz.prog cfg (opsAt Tryz.f72 13) = some [] := by kernel_rfl
theorem dr72_18 : drawInfo Tryz.prog cfg (opsAt Tryz.f72 18) = some [] := by kernel_rfl
theorem dr78_4 : drawInfo Tryz.prog cfg (opsAt Tryz.f78 4) = some [(1, 2)] := by kernel_rfl
theorem dr78_12 : drawInfo Tryz.prog cfg (opsAt Tryz.f78 12) = some [(1, 2)] := by kernel_rfl
theorem dr82_3 : drawInfo Tryz.prog cfg (opsAt Tryz.f82 3) = some [] := by kernel_rfl
theorem dr86_2 : drawInfo Tryz.prog cfg (opsAt Tryz.f86 2) = some [] := by kernel_rfl
theorem dr87_2 : drawInfo Tryz.prog cfg (opsAt Tryz.f87 2) = some [] := by kernel_rfl
theorem dr90_1 : drawInfo Tryz.prog cfg (opsAt Tryz.f90 1) = some [] := by kernel_rfl
theorem dr91_1 : drawInfo Tryz.prog cfg (opsAt Tryz.f91 1) = some [] := by kernel_rfl
theorem dr92_1 : drawInfo Tryz.prog cfg (opsAt Tryz.f92 1) = some [] := by kernel_rfl
theorem dr93_3 : drawInfo Tryz.prog cfg (opsAt Tryz.f93 3) = some [] := by kernel_rfl
theorem dr100_11 : drawInfo Tryz.prog cfg (opsAt Tryz.f100 11) = some [] := by kernel_rfl
theorem dr100_18 : drawInfo Tryz.prog cfg (opsAt Tryz.f100 18) = some [] := by kernel_rfl
theorem dr104_1 : drawInfo Tryz.prog cfg (opsAt Tryz.f104 1) = some [] := by kernel_rfl
theorem dr105_1 : drawInfo Tryz.prog cfg (opsAt Tryz.f105 1) = some [] := by kernel_rfl
theorem dr107_1 : drawInfo Tryz.prog cfg (opsAt Tryz.f107 1) = some [] := by kernel_rfl
theorem dr108_1 : drawInfo Tryz.prog cfg (opsAt Tryz.f108 1) = some [] := by kernel_rfl
theorem dr117_1 : drawInfo Tryz.prog cfg (opsAt Tryz.f117 1) = some [] := by kernel_rfl
attribute [simp] ag3 sz3 by3 ze3 un3 ag4 sz4 by4 ze4 un4 ag5 sz5 by5 ze5 un5 ag9 sz9 by9 ze9 un9 ag20 sz20 by20 ze20 ag23 sz23 by23 ze23 un23 el23 ag24 sz24 by24 ze24 un24 el24 ag26 sz26 by26 ze26 ag30 sz30 by30 ze30 ag32 sz32 by32 ze32 ag33 sz33 by33 ze33 un33 ag41 sz41 by41 ze41 un41 el41 ag43 sz43 by43 ze43 ag45 sz45 by45 ze45 ag49 sz49 by49 ze49 ag51 sz51 by51 ze51 ag53 sz53 by53 ze53 ag58 sz58 by58 ze58 un58 el58 ag60 sz60 by60 ze60 ag63 sz63 by63 ze63 ag66 sz66 by66 ze66 un66 el66 ag67 sz67 by67 ze67 un67 el67 ag69 sz69 by69 ze69 ag74 sz74 by74 ze74 ag82 sz82 by82 ze82 ag83 sz83 by83 ze83 un83 el83 ag91 sz91 by91 ze91 ag97 sz97 by97 ze97 ag100 sz100 by100 ze100 ag122 sz122 by122 ze122 ag125 sz125 by125 ze125 un125 ag146 sz146 by146 ze146 un146 ag149 sz149 by149 ze149 un149 ag153 sz153 by153 ze153 ag158 sz158 by158 ze158 ag161 sz161 by161 ze161 ag165 sz165 by165 ze165 un165 el165 ag166 sz166 by166 ze166 un166 fp26_0 fq26_0 fp26_1 fq26_1 fp26_2 fq26_2 fp30_0 fq30_0 fp30_1 fq30_1 fp32_0 fq32_0 fp32_1 fq32_1 fp45_0 fq45_0 fp45_1 fq45_1 fp45_2 fq45_2 fp45_3 fq45_3 fp45_4 fq45_4 fp45_5 fq45_5 fp45_6 fq45_6 fp45_7 fq45_7 fp45_8 fq45_8 fp45_9 fq45_9 fp45_10 fq45_10 fp53_0 fq53_0 fp53_1 fq53_1 fp53_2 fq53_2 fp60_0 fq60_0 fp60_1 fq60_1 fp60_2 fq60_2 fp60_3 fq60_3 fp69_0 fq69_0 fp69_1 fq69_1 fp69_2 fq69_2 fp69_3 fq69_3 fp69_4 fq69_4 fp74_0 fq74_0 fp74_1 fq74_1 fp74_2 fq74_2 fp74_3 fq74_3 fp74_4 fq74_4 fp82_0 fq82_0 fp82_2 fq82_2 fp91_0 fq91_0 fp91_1 fq91_1 fp91_2 fq91_2 fp100_0 fq100_0 fp100_1 fq100_1 fp100_2 fq100_2 fp100_3 fq100_3 fp122_0 fq122_0 fp122_1 fq122_1 fp153_2 fq153_2 fp153_3 fq153_3 bu30 bc30_0 bc30_1 bu32 bc32_0 bc32_1 bu43 bc43_0 bu45 bc45_0 bc45_3 bc45_4 bc45_5 bc45_11 bu49 bu53 bc53_0 bc53_1 bu60 bc60_0 bc60_1 bc60_2 bu69 bc69_0 bc69_1 bc69_2 bc69_3 bu74 bc74_0 bc74_1 bc74_2 bc74_3 bc74_4 bu82 bc82_0 bc82_1 bc82_2 bu91 bc91_0 bc91_1 bc91_2 bu100 bc100_0 bc100_1 bc100_3 bu122 bc122_0 bc122_1 bu153 bc153_0 bc153_1 bc153_2 bc153_3 ft30 ft32 sh3 sh4 sh5 sh6 sh7 sh8 sh9 sh10 sh11 sh12 sh13 sh14 sh15 sh16 sh17 sh18 sh19 sh20 sh21 sh22 sh23 sh24 sh25 sh26 sh27 sh28 sh29 sh30 sh31 sh32 sh33 sh34 sh35 sh36 sh37 sh38 sh39 sh40 sh41 sh42 sh43 sh44 sh45 sh46 sh47 sh48 sh49 sh50 sh51 sh52 sh53 sh54 sh55 sh56 sh57 sh58 sh59 sh60 sh61 sh62 sh63 sh64 sh65 sh66 sh67 sh68 sh69 sh70 sh71 sh72 sh73 sh74 sh75 sh76 sh77 sh78 sh79 sh80 sh81 sh82 sh83 sh84 sh85 sh86 sh87 sh88 sh89 sh90 sh91 sh92 sh93 sh94 sh95 sh96 sh97 sh98 sh99 sh100 sh101 sh102 sh103 sh104 sh105 sh106 sh107 sh108 sh109 sh110 sh111 sh112 sh113 sh114 sh115 sh116 sh117 sh118 sh119 sh120 sh121 sh122 sh123 sh124 sh125 sh126 sh127
attribute [local simp] fits_agg fits_one
theorem lit23_0 (dst ty pos af g st ps) : opD Tryz.prog cfg R ⟨dst, .buildSlice 23 0 ps, ty, pos, af, g⟩ st = (evps st.σ ps.toList).bind (litK 4 true [] st.h) := lit_eq dst ty pos af g st ps el23 sz60 ag60 ze60 rfl (by simp) (by decide) (by decide)
theorem litn23_0 (dst ty pos af g st ps) : opD Tryz.prog ⟨cfg.shared, cfg.ext, true, cfg.lit⟩ R ⟨dst, .buildSlice 23 0 ps, ty, pos, af, g⟩ st = (evps st.σ ps.toList).bind (litK 4 true [] st.h) := lit_eq dst ty pos af g st ps el23 sz60 ag60 ze60 rfl (by simp) (by decide) (by decide)
theorem lit24_0 (dst ty pos af g st ps) : opD Tryz.prog cfg R ⟨dst, .buildSlice 24 0 ps, ty, pos, af, g⟩ st = (evps st.σ ps.toList).bind (litK 2 true [] st.h) := lit_eq dst ty pos af g st ps el24 sz30 ag30 ze30 rfl (by simp) (by decide) (by decide)
theorem litn24_0 (dst ty pos af g st ps) : opD Tryz.prog ⟨cfg.shared, cfg.ext, true, cfg.lit⟩ R ⟨dst, .buildSlice 24 0 ps, ty, pos, af, g⟩ st = (evps st.σ ps.toList).bind (litK 2 true [] st.h) := lit_eq dst ty pos af g st ps el24 sz30 ag30 ze30 rfl (by simp) (by decide) (by decide)
theorem lit24_1 (dst ty pos af g st ps) : opD Tryz.prog cfg R ⟨dst, .buildSlice 24 1 ps, ty, pos, af, g⟩ st = (evps st.σ ps.toList).bind (litK 2 true [(.agg [.int .i64 0, .int .i64 0])] st.h) := lit_eq dst ty pos af g st ps el24 sz30 ag30 ze30 rfl (by simp) (by decide) (by decide)
theorem litn24_1 (dst ty pos af g st ps) : opD Tryz.prog ⟨cfg.shared, cfg.ext, true, cfg.lit⟩ R ⟨dst, .buildSlice 24 1 ps, ty, pos, af, g⟩ st = (evps st.σ ps.toList).bind (litK 2 true [(.agg [.int .i64 0, .int .i64 0])] st.h) := lit_eq dst ty pos af g st ps el24 sz30 ag30 ze30 rfl (by simp) (by decide) (by decide)
theorem lit24_2 (dst ty pos af g st ps) : opD Tryz.prog cfg R ⟨dst, .buildSlice 24 2 ps, ty, pos, af, g⟩ st = (evps st.σ ps.toList).bind (litK 2 true [(.agg [.int .i64 0, .int .i64 0]), (.agg [.int .i64 0, .int .i64 0])] st.h) := lit_eq dst ty pos af g st ps el24 sz30 ag30 ze30 rfl (by simp) (by decide) (by decide)
theorem litn24_2 (dst ty pos af g st ps) : opD Tryz.prog ⟨cfg.shared, cfg.ext, true, cfg.lit⟩ R ⟨dst, .buildSlice 24 2 ps, ty, pos, af, g⟩ st = (evps st.σ ps.toList).bind (litK 2 true [(.agg [.int .i64 0, .int .i64 0]), (.agg [.int .i64 0, .int .i64 0])] st.h) := lit_eq dst ty pos af g st ps el24 sz30 ag30 ze30 rfl (by simp) (by decide) (by decide)
theorem lit41_0 (dst ty pos af g st ps) : opD Tryz.prog cfg R ⟨dst, .buildSlice 41 0 ps, ty, pos, af, g⟩ st = (evps st.σ ps.toList).bind (litK 6 true [] st.h) := lit_eq dst ty pos af g st ps el41 sz82 ag82 ze82 rfl (by simp) (by decide) (by decide)
theorem litn41_0 (dst ty pos af g st ps) : opD Tryz.prog ⟨cfg.shared, cfg.ext, true, cfg.lit⟩ R ⟨dst, .buildSlice 41 0 ps, ty, pos, af, g⟩ st = (evps st.σ ps.toList).bind (litK 6 true [] st.h) := lit_eq dst ty pos af g st ps el41 sz82 ag82 ze82 rfl (by simp) (by decide) (by decide)
theorem lit41_1 (dst ty pos af g st ps) : opD Tryz.prog cfg R ⟨dst, .buildSlice 41 1 ps, ty, pos, af, g⟩ st = (evps st.σ ps.toList).bind (litK 6 true [(.agg [.int .i64 0, .int .i64 0, .int .i64 0, .int .i64 0, .int .i64 0, .int .i64 0])] st.h) := lit_eq dst ty pos af g st ps el41 sz82 ag82 ze82 rfl (by simp) (by decide) (by decide)
theorem litn41_1 (dst ty pos af g st ps) : opD Tryz.prog ⟨cfg.shared, cfg.ext, true, cfg.lit⟩ R ⟨dst, .buildSlice 41 1 ps, ty, pos, af, g⟩ st = (evps st.σ ps.toList).bind (litK 6 true [(.agg [.int .i64 0, .int .i64 0, .int .i64 0, .int .i64 0, .int .i64 0, .int .i64 0])] st.h) := lit_eq dst ty pos af g st ps el41 sz82 ag82 ze82 rfl (by simp) (by decide) (by decide)
theorem lit58_1 (dst ty pos af g st ps) : opD Tryz.prog cfg R ⟨dst, .buildSlice 58 1 ps, ty, pos, af, g⟩ st = (evps st.σ ps.toList).bind (litK 3 true [(.agg [.int .i64 0, .int .i64 0, .int .i64 0])] st.h) := lit_eq dst ty pos af g st ps el58 sz91 ag91 ze91 rfl (by simp) (by decide) (by decide)
theorem litn58_1 (dst ty pos af g st ps) : opD Tryz.prog ⟨cfg.shared, cfg.ext, true, cfg.lit⟩ R ⟨dst, .buildSlice 58 1 ps, ty, pos, af, g⟩ st = (evps st.σ ps.toList).bind (litK 3 true [(.agg [.int .i64 0, .int .i64 0, .int .i64 0])] st.h) := lit_eq dst ty pos af g st ps el58 sz91 ag91 ze91 rfl (by simp) (by decide) (by decide)
theorem lit66_1 (dst ty pos af g st ps) : opD Tryz.prog cfg R ⟨dst, .buildSlice 66 1 ps, ty, pos, af, g⟩ st = (evps st.σ ps.toList).bind (litK 1 false [(.int .i64 0)] st.h) := lit_eq dst ty pos af g st ps el66 sz3 ag3 ze3 rfl (by simp) (by decide) (by decide)
theorem litn66_1 (dst ty pos af g st ps) : opD Tryz.prog ⟨cfg.shared, cfg.ext, true, cfg.lit⟩ R ⟨dst, .buildSlice 66 1 ps, ty, pos, af, g⟩ st = (evps st.σ ps.toList).bind (litK 1 false [(.int .i64 0)] st.h) := lit_eq dst ty pos af g st ps el66 sz3 ag3 ze3 rfl (by simp) (by decide) (by decide)
theorem lit66_2 (dst ty pos af g st ps) : opD Tryz.prog cfg R ⟨dst, .buildSlice 66 2 ps, ty, pos, af, g⟩ st = (evps st.σ ps.toList).bind (litK 1 false [(.int .i64 0), (.int .i64 0)] st.h) := lit_eq dst ty pos af g st ps el66 sz3 ag3 ze3 rfl (by simp) (by decide) (by decide)
theorem litn66_2 (dst ty pos af g st ps) : opD Tryz.prog ⟨cfg.shared, cfg.ext, true, cfg.lit⟩ R ⟨dst, .buildSlice 66 2 ps, ty, pos, af, g⟩ st = (evps st.σ ps.toList).bind (litK 1 false [(.int .i64 0), (.int .i64 0)] st.h) := lit_eq dst ty pos af g st ps el66 sz3 ag3 ze3 rfl (by simp) (by decide) (by decide)
theorem lit83_0 (dst ty pos af g st ps) : opD Tryz.prog cfg R ⟨dst, .buildSlice 83 0 ps, ty, pos, af, g⟩ st = (evps st.σ ps.toList).bind (litK 1 false [] st.h) := lit_eq dst ty pos af g st ps el83 sz9 ag9 ze9 rfl (by simp) (by decide) (by decide)
theorem litn83_0 (dst ty pos af g st ps) : opD Tryz.prog ⟨cfg.shared, cfg.ext, true, cfg.lit⟩ R ⟨dst, .buildSlice 83 0 ps, ty, pos, af, g⟩ st = (evps st.σ ps.toList).bind (litK 1 false [] st.h) := lit_eq dst ty pos af g st ps el83 sz9 ag9 ze9 rfl (by simp) (by decide) (by decide)
theorem lit83_1 (dst ty pos af g st ps) : opD Tryz.prog cfg R ⟨dst, .buildSlice 83 1 ps, ty, pos, af, g⟩ st = (evps st.σ ps.toList).bind (litK 1 false [(.str ByteArray.empty)] st.h) := lit_eq dst ty pos af g st ps el83 sz9 ag9 ze9 rfl (by simp) (by decide) (by decide)
theorem litn83_1 (dst ty pos af g st ps) : opD Tryz.prog ⟨cfg.shared, cfg.ext, true, cfg.lit⟩ R ⟨dst, .buildSlice 83 1 ps, ty, pos, af, g⟩ st = (evps st.σ ps.toList).bind (litK 1 false [(.str ByteArray.empty)] st.h) := lit_eq dst ty pos af g st ps el83 sz9 ag9 ze9 rfl (by simp) (by decide) (by decide)
theorem lit83_17 (dst ty pos af g st ps) : opD Tryz.prog cfg R ⟨dst, .buildSlice 83 17 ps, ty, pos, af, g⟩ st = (evps st.σ ps.toList).bind (litK 1 false [(.str ByteArray.empty), (.str ByteArray.empty), (.str ByteArray.empty), (.str ByteArray.empty), (.str ByteArray.empty), (.str ByteArray.empty), (.str ByteArray.empty), (.str ByteArray.empty), (.str ByteArray.empty), (.str ByteArray.empty), (.str ByteArray.empty), (.str ByteArray.empty), (.str ByteArray.empty), (.str ByteArray.empty), (.str ByteArray.empty), (.str ByteArray.empty), (.str ByteArray.empty)] st.h) := lit_eq dst ty pos af g st ps el83 sz9 ag9 ze9 rfl (by simp) (by decide) (by decide)
theorem litn83_17 (dst ty pos af g st ps) : opD Tryz.prog ⟨cfg.shared, cfg.ext, true, cfg.lit⟩ R ⟨dst, .buildSlice 83 17 ps, ty, pos, af, g⟩ st = (evps st.σ ps.toList).bind (litK 1 false [(.str ByteArray.empty), (.str ByteArray.empty), (.str ByteArray.empty), (.str ByteArray.empty), (.str ByteArray.empty), (.str ByteArray.empty), (.str ByteArray.empty), (.str ByteArray.empty), (.str ByteArray.empty), (.str ByteArray.empty), (.str ByteArray.empty), (.str ByteArray.empty), (.str ByteArray.empty), (.str ByteArray.empty), (.str ByteArray.empty), (.str ByteArray.empty), (.str ByteArray.empty)] st.h) := lit_eq dst ty pos af g st ps el83 sz9 ag9 ze9 rfl (by simp) (by decide) (by decide)
theorem lit165_1 (dst ty pos af g st ps) : opD Tryz.prog cfg R ⟨dst, .buildSlice 165 1 ps, ty, pos, af, g⟩ st = (evps st.σ ps.toList).bind (litK 1 false [(.int .u8 0)] st.h) := lit_eq dst ty pos af g st ps el165 sz5 ag5 ze5 rfl (by simp) (by decide) (by decide)
theorem litn165_1 (dst ty pos af g st ps) : opD Tryz.prog ⟨cfg.shared, cfg.ext, true, cfg.lit⟩ R ⟨dst, .buildSlice 165 1 ps, ty, pos, af, g⟩ st = (evps st.σ ps.toList).bind (litK 1 false [(.int .u8 0)] st.h) := lit_eq dst ty pos af g st ps el165 sz5 ag5 ze5 rfl (by simp) (by decide) (by decide)
theorem le9 (h ty) (s : ByteArray) : builtinD Tryz.prog h .len #[9] ty [.str s] = some (.int .i64 s.size, h) := by simp [builtinD, un9]
theorem le23 (h ty) (x : D) : builtinD Tryz.prog h .len #[23] ty [x] = (lenS x).map fun (n : Nat) => (D.int .i64 (n : Int), h) := bu_len (t := 23) rfl un23
theorem ap23 (h ty s x) : builtinD Tryz.prog h .append #[23, 23] ty [s, x] = (elsZ h 4 s).bind fun old => (elsZ h 4 x).bind (apK 48 4 h s old) := app_eq rfl rfl el23 un23 sz60 sz60 by60 ag60 (by simp [zeroOk]) (by decide) (by decide) h ty s x
theorem cp23 (h ty d s) : builtinD Tryz.prog h .copy #[23, 23] ty [d, s] = (lenS d).bind fun dl => (elsZ h 4 s).bind fun xs => cpN 4 h d (Nat.min xs.length dl) xs := copy_eq rfl el23 sz60 h ty d s
theorem ixs23 (xs tg i) : indexAddrD Tryz.prog 23 (.sl 4 xs tg) i = (idxD xs.length i).map fun i => .fptr 4 xs i 0 := ixsl_eq un23 sz60 xs tg i
theorem ixo23 (id ver off len i) : indexAddrD Tryz.prog 23 (.own 4 id ver off len) i = (idxD len i).map fun i => .ptr id ver (off + i) 0 := ixown_eq un23 sz60 id ver off len i
theorem le24 (h ty) (x : D) : builtinD Tryz.prog h .len #[24] ty [x] = (lenS x).map fun (n : Nat) => (D.int .i64 (n : Int), h) := bu_len (t := 24) rfl un24
theorem ap24 (h ty s x) : builtinD Tryz.prog h .append #[24, 24] ty [s, x] = (elsZ h 2 s).bind fun old => (elsZ h 2 x).bind (apK 16 2 h s old) := app_eq rfl rfl el24 un24 sz30 sz30 by30 ag30 (by simp [zeroOk]) (by decide) (by decide) h ty s x
theorem cp24 (h ty d s) : builtinD Tryz.prog h .copy #[24, 24] ty [d, s] = (lenS d).bind fun dl => (elsZ h 2 s).bind fun xs => cpN 2 h d (Nat.min xs.length dl) xs := copy_eq rfl el24 sz30 h ty d s
theorem ixs24 (xs tg i) : indexAddrD Tryz.prog 24 (.sl 2 xs tg) i = (idxD xs.length i).map fun i => .fptr 2 xs i 0 := ixsl_eq un24 sz30 xs tg i
theorem ixo24 (id ver off len i) : indexAddrD Tryz.prog 24 (.own 2 id ver off len) i = (idxD len i).map fun i => .ptr id ver (off + i) 0 := ixown_eq un24 sz30 id ver off len i
theorem le41 (h ty) (x : D) : builtinD Tryz.prog h .len #[41] ty [x] = (lenS x).map fun (n : Nat) => (D.int .i64 (n : Int), h) := bu_len (t := 41) rfl un41
theorem ap41 (h ty s x) : builtinD Tryz.prog h .append #[41, 41] ty [s, x] = (elsZ h 6 s).bind fun old => (elsZ h 6 x).bind (apK 48 6 h s old) := app_eq rfl rfl el41 un41 sz82 sz82 by82 ag82 (by simp [zeroOk]) (by decide) (by decide) h ty s x
theorem cp41 (h ty d s) : builtinD Tryz.prog h .copy #[41, 41] ty [d, s] = (lenS d).bind fun dl => (elsZ h 6 s).bind fun xs => cpN 6 h d (Nat.min xs.length dl) xs := copy_eq rfl el41 sz82 h ty d s
theorem ixs41 (xs tg i) : indexAddrD Tryz.prog 41 (.sl 6 xs tg) i = (idxD xs.length i).map fun i => .fptr 6 xs i 0 := ixsl_eq un41 sz82 xs tg i
theorem ixo41 (id ver off len i) : indexAddrD Tryz.prog 41 (.own 6 id ver off len) i = (idxD len i).map fun i => .ptr id ver (off + i) 0 := ixown_eq un41 sz82 id ver off len i
theorem le58 (h ty) (x : D) : builtinD Tryz.prog h .len #[58] ty [x] = (lenS x).map fun (n : Nat) => (D.int .i64 (n : Int), h) := bu_len (t := 58) rfl un58
theorem ap58 (h ty s x) : builtinD Tryz.prog h .append #[58, 58] ty [s, x] = (elsZ h 3 s).bind fun old => (elsZ h 3 x).bind (apK 24 3 h s old) := app_eq rfl rfl el58 un58 sz91 sz91 by91 ag91 (by simp [zeroOk]) (by decide) (by decide) h ty s x
theorem cp58 (h ty d s) : builtinD Tryz.prog h .copy #[58, 58] ty [d, s] = (lenS d).bind fun dl => (elsZ h 3 s).bind fun xs => cpN 3 h d (Nat.min xs.length dl) xs := copy_eq rfl el58 sz91 h ty d s
theorem ixs58 (xs tg i) : indexAddrD Tryz.prog 58 (.sl 3 xs tg) i = (idxD xs.length i).map fun i => .fptr 3 xs i 0 := ixsl_eq un58 sz91 xs tg i
theorem ixo58 (id ver off len i) : indexAddrD Tryz.prog 58 (.own 3 id ver off len) i = (idxD len i).map fun i => .ptr id ver (off + i) 0 := ixown_eq un58 sz91 id ver off len i
theorem le66 (h ty) (x : D) : builtinD Tryz.prog h .len #[66] ty [x] = (lenS x).map fun (n : Nat) => (D.int .i64 (n : Int), h) := bu_len (t := 66) rfl un66
theorem ap66 (h ty s x) : builtinD Tryz.prog h .append #[66, 66] ty [s, x] = (elsZ h 1 s).bind fun old => (elsZ h 1 x).bind (apK 8 1 h s old) := app_eq rfl rfl el66 un66 sz3 sz3 by3 ag3 (by simp [zeroOk]) (by decide) (by decide) h ty s x
theorem cp66 (h ty d s) : builtinD Tryz.prog h .copy #[66, 66] ty [d, s] = (lenS d).bind fun dl => (elsZ h 1 s).bind fun xs => cpN 1 h d (Nat.min xs.length dl) xs := copy_eq rfl el66 sz3 h ty d s
theorem ixs66 (xs tg i) : indexAddrD Tryz.prog 66 (.sl 1 xs tg) i = (idxD xs.length i).map fun i => .fptr 1 xs i 0 := ixsl_eq un66 sz3 xs tg i
theorem ixo66 (id ver off len i) : indexAddrD Tryz.prog 66 (.own 1 id ver off len) i = (idxD len i).map fun i => .ptr id ver (off + i) 0 := ixown_eq un66 sz3 id ver off len i
theorem le67 (h ty) (x : D) : builtinD Tryz.prog h .len #[67] ty [x] = (lenS x).map fun (n : Nat) => (D.int .i64 (n : Int), h) := bu_len (t := 67) rfl un67
theorem ap67 (h ty s x) : builtinD Tryz.prog h .append #[67, 67] ty [s, x] = (elsZ h 1 s).bind fun old => (elsZ h 1 x).bind (apK 1 1 h s old) := app_eq rfl rfl el67 un67 sz4 sz4 by4 ag4 (by simp [zeroOk]) (by decide) (by decide) h ty s x
theorem cp67 (h ty d s) : builtinD Tryz.prog h .copy #[67, 67] ty [d, s] = (lenS d).bind fun dl => (elsZ h 1 s).bind fun xs => cpN 1 h d (Nat.min xs.length dl) xs := copy_eq rfl el67 sz4 h ty d s
theorem ixs67 (xs tg i) : indexAddrD Tryz.prog 67 (.sl 1 xs tg) i = (idxD xs.length i).map fun i => .fptr 1 xs i 0 := ixsl_eq un67 sz4 xs tg i
theorem ixo67 (id ver off len i) : indexAddrD Tryz.prog 67 (.own 1 id ver off len) i = (idxD len i).map fun i => .ptr id ver (off + i) 0 := ixown_eq un67 sz4 id ver off len i
theorem le83 (h ty) (x : D) : builtinD Tryz.prog h .len #[83] ty [x] = (lenS x).map fun (n : Nat) => (D.int .i64 (n : Int), h) := bu_len (t := 83) rfl un83
theorem ap83 (h ty s x) : builtinD Tryz.prog h .append #[83, 83] ty [s, x] = (elsZ h 1 s).bind fun old => (elsZ h 1 x).bind (apK 16 1 h s old) := app_eq rfl rfl el83 un83 sz9 sz9 by9 ag9 (by simp [zeroOk]) (by decide) (by decide) h ty s x
theorem cp83 (h ty d s) : builtinD Tryz.prog h .copy #[83, 83] ty [d, s] = (lenS d).bind fun dl => (elsZ h 1 s).bind fun xs => cpN 1 h d (Nat.min xs.length dl) xs := copy_eq rfl el83 sz9 h ty d s
theorem ixs83 (xs tg i) : indexAddrD Tryz.prog 83 (.sl 1 xs tg) i = (idxD xs.length i).map fun i => .fptr 1 xs i 0 := ixsl_eq un83 sz9 xs tg i
theorem ixo83 (id ver off len i) : indexAddrD Tryz.prog 83 (.own 1 id ver off len) i = (idxD len i).map fun i => .ptr id ver (off + i) 0 := ixown_eq un83 sz9 id ver off len i
theorem le165 (h ty) (x : D) : builtinD Tryz.prog h .len #[165] ty [x] = (lenS x).map fun (n : Nat) => (D.int .i64 (n : Int), h) := bu_len (t := 165) rfl un165
theorem ap165 (h ty s x) : builtinD Tryz.prog h .append #[165, 165] ty [s, x] = (elsZ h 1 s).bind fun old => (elsZ h 1 x).bind (apK 1 1 h s old) := app_eq rfl rfl el165 un165 sz5 sz5 by5 ag5 (by simp [zeroOk]) (by decide) (by decide) h ty s x
theorem cp165 (h ty d s) : builtinD Tryz.prog h .copy #[165, 165] ty [d, s] = (lenS d).bind fun dl => (elsZ h 1 s).bind fun xs => cpN 1 h d (Nat.min xs.length dl) xs := copy_eq rfl el165 sz5 h ty d s
theorem ixs165 (xs tg i) : indexAddrD Tryz.prog 165 (.sl 1 xs tg) i = (idxD xs.length i).map fun i => .fptr 1 xs i 0 := ixsl_eq un165 sz5 xs tg i
theorem ixo165 (id ver off len i) : indexAddrD Tryz.prog 165 (.own 1 id ver off len) i = (idxD len i).map fun i => .ptr id ver (off + i) 0 := ixown_eq un165 sz5 id ver off len i
theorem le166 (h ty) (x : D) : builtinD Tryz.prog h .len #[166] ty [x] = some (.int .i64 17, h) := by simp [builtinD, un166]
attribute [simp] lit23_0 litn23_0 lit24_0 litn24_0 lit24_1 litn24_1 lit24_2 litn24_2 lit41_0 litn41_0 lit41_1 litn41_1 lit58_1 litn58_1 lit66_1 litn66_1 lit66_2 litn66_2 lit83_0 litn83_0 lit83_1 litn83_1 lit83_17 litn83_17 lit165_1 litn165_1 le9 le23 ap23 cp23 ixs23 ixo23 le24 ap24 cp24 ixs24 ixo24 le41 ap41 cp41 ixs41 ixo41 le58 ap58 cp58 ixs58 ixo58 le66 ap66 cp66 ixs66 ixo66 le67 ap67 cp67 ixs67 ixo67 le83 ap83 cp83 ixs83 ixo83 le165 ap165 cp165 ixs165 ixo165 le166
end Go.Proofs.YtlpadffinfijgaaGreatW.Vm
