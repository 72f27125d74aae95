/- What the types of this program are, and which regions have their order open: for simp. Printed by facts.py. No conditions. -/
import Derived.Test.YtifmjomfoilnnaaGreatVmSX
import Derived.Test.YtifmjomfoilnnaaGreatVmSim
import Derived.Test.YtifmjomfoilnnaaGreatProg
import Derived.KernelRfl
set_option linter.unusedVariables false
set_option linter.unusedSimpArgs false
namespace Go.Proofs.YtifmjomfoilnnaaGreatW.Vm
open Go Go.Proofs
def cfg : Cfg := { shared := fun f => f == 13 || f == 14 || f == 59 || f == 61 || f == 62 || f == 69 || f == 70 || f == 87 || f == 93 || f == 94 || f == 95 || f == 100 || f == 101 || f == 115 || f == 116 || f == 117, ext := fun f => if f = 99 then some (valuesG 120) else if f = 98 then some (sortedG 120) else none, lit := fun t n => !((t == 23 && n == 1) || (t == 30 && n == 3) || (t == 33 && n == 1)) }
theorem cfg_lit (t n : Nat) : cfg.lit t n = (!((t == 23 && n == 1) || (t == 30 && n == 3) || (t == 33 && n == 1))) := rfl
theorem cfg_nomark : cfg.nomark = false := rfl
noncomputable abbrev R : Run := W Tryz.prog cfg
theorem sh3 : cfg.shared 3 = false := by decide
theorem sh4 : cfg.shared 4 = false := by decide
theorem sh5 : cfg.shared 5 = false := by decide
theorem sh6 : cfg.shared 6 = false := by decide
theorem sh7 : cfg.shared 7 = false := by decide
theorem sh8 : cfg.shared 8 = false := by decide
theorem sh9 : cfg.shared 9 = false := by decide
theorem sh10 : cfg.shared 10 = false := by decide
theorem sh11 : cfg.shared 11 = false := by decide
theorem sh12 : cfg.shared 12 = false := by decide
theorem sh13 : cfg.shared 13 = true := by decide
theorem sh14 : cfg.shared 14 = true := by decide
theorem sh15 : cfg.shared 15 = false := by decide
theorem sh16 : cfg.shared 16 = false := by decide
theorem sh17 : cfg.shared 17 = false := by decide
theorem sh18 : cfg.shared 18 = false := by decide
theorem sh19 : cfg.shared 19 = false := by decide
theorem sh20 : cfg.shared 20 = false := by decide
theorem sh21 : cfg.shared 21 = false := by decide
theorem sh22 : cfg.shared 22 = false := by decide
theorem sh23 : cfg.shared 23 = false := by decide
theorem sh24 : cfg.shared 24 = false := by decide
theorem sh25 : cfg.shared 25 = false := by decide
theorem sh26 : cfg.shared 26 = false := by decide
theorem sh27 : cfg.shared 27 = false := by decide
theorem sh28 : cfg.shared 28 = false := by decide
theorem sh29 : cfg.shared 29 = false := by decide
theorem sh30 : cfg.shared 30 = false := by decide
theorem sh31 : cfg.shared 31 = false := by decide
theorem sh32 : cfg.shared 32 = false := by decide
theorem sh33 : cfg.shared 33 = false := by decide
theorem sh34 : cfg.shared 34 = false := by decide
theorem sh35 : cfg.shared 35 = false := by decide
theorem sh36 : cfg.shared 36 = false := by decide
theorem sh37 : cfg.shared 37 = false := by decide
theorem sh38 : cfg.shared 38 = false := by decide
theorem sh39 : cfg.shared 39 = false := by decide
theorem sh40 : cfg.shared 40 = false := by decide
theorem sh41 : cfg.shared 41 = false := by decide
theorem sh42 : cfg.shared 42 = false := by decide
theorem sh43 : cfg.shared 43 = false := by decide
theorem sh44 : cfg.shared 44 = false := by decide
theorem sh45 : cfg.shared 45 = false := by decide
theorem sh46 : cfg.shared 46 = false := by decide
theorem sh47 : cfg.shared 47 = false := by decide
theorem sh48 : cfg.shared 48 = false := by decide
theorem sh49 : cfg.shared 49 = false := by decide
theorem sh50 : cfg.shared 50 = false := by decide
theorem sh51 : cfg.shared 51 = false := by decide
theorem sh52 : cfg.shared 52 = false := by decide
theorem sh53 : cfg.shared 53 = false := by decide
theorem sh54 : cfg.shared 54 = false := by decide
theorem sh55 : cfg.shared 55 = false := by decide
theorem sh56 : cfg.shared 56 = false := by decide
theorem sh57 : cfg.shared 57 = false := by decide
theorem sh58 : cfg.shared 58 = false := by decide
theorem sh59 : cfg.shared 59 = true := by decide
theorem sh60 : cfg.shared 60 = false := by decide
theorem sh61 : cfg.shared 61 = true := by decide
theorem sh62 : cfg.shared 62 = true := by decide
theorem sh63 : cfg.shared 63 = false := by decide
theorem sh64 : cfg.shared 64 = false := by decide
theorem sh65 : cfg.shared 65 = false := by decide
theorem sh66 : cfg.shared 66 = false := by decide
theorem sh67 : cfg.shared 67 = false := by decide
theorem sh68 : cfg.shared 68 = false := by decide
theorem sh69 : cfg.shared 69 = true := by decide
theorem sh70 : cfg.shared 70 = true := by decide
theorem sh71 : cfg.shared 71 = false := by decide
theorem sh72 : cfg.shared 72 = false := by decide
theorem sh73 : cfg.shared 73 = false := by decide
theorem sh74 : cfg.shared 74 = false := by decide
theorem sh75 : cfg.shared 75 = false := by decide
theorem sh76 : cfg.shared 76 = false := by decide
theorem sh77 : cfg.shared 77 = false := by decide
theorem sh78 : cfg.shared 78 = false := by decide
theorem sh79 : cfg.shared 79 = false := by decide
theorem sh80 : cfg.shared 80 = false := by decide
theorem sh81 : cfg.shared 81 = false := by decide
theorem sh82 : cfg.shared 82 = false := by decide
theorem sh83 : cfg.shared 83 = false := by decide
theorem sh84 : cfg.shared 84 = false := by decide
theorem sh85 : cfg.shared 85 = false := by decide
theorem sh86 : cfg.shared 86 = false := by decide
theorem sh87 : cfg.shared 87 = true := by decide
theorem sh88 : cfg.shared 88 = false := by decide
theorem sh89 : cfg.shared 89 = false := by decide
theorem sh90 : cfg.shared 90 = false := by decide
theorem sh91 : cfg.shared 91 = false := by decide
theorem sh92 : cfg.shared 92 = false := by decide
theorem sh93 : cfg.shared 93 = true := by decide
theorem sh94 : cfg.shared 94 = true := by decide
theorem sh95 : cfg.shared 95 = true := by decide
theorem sh96 : cfg.shared 96 = false := by decide
theorem sh97 : cfg.shared 97 = false := by decide
theorem sh98 : cfg.shared 98 = false := by decide
theorem sh99 : cfg.shared 99 = false := by decide
theorem sh100 : cfg.shared 100 = true := by decide
theorem sh101 : cfg.shared 101 = true := by decide
theorem sh102 : cfg.shared 102 = false := by decide
theorem sh103 : cfg.shared 103 = false := by decide
theorem sh104 : cfg.shared 104 = false := by decide
theorem sh105 : cfg.shared 105 = false := by decide
theorem sh106 : cfg.shared 106 = false := by decide
theorem sh107 : cfg.shared 107 = false := by decide
theorem sh108 : cfg.shared 108 = false := by decide
theorem sh109 : cfg.shared 109 = false := by decide
theorem sh110 : cfg.shared 110 = false := by decide
theorem sh111 : cfg.shared 111 = false := by decide
theorem sh112 : cfg.shared 112 = false := by decide
theorem sh113 : cfg.shared 113 = false := by decide
theorem sh114 : cfg.shared 114 = false := by decide
theorem sh115 : cfg.shared 115 = true := by decide
theorem sh116 : cfg.shared 116 = true := by decide
theorem sh117 : cfg.shared 117 = true := by decide
theorem sh118 : cfg.shared 118 = false := by decide
theorem sh119 : cfg.shared 119 = false := by decide
theorem sh120 : cfg.shared 120 = false := by decide
theorem sh121 : cfg.shared 121 = false := by decide
theorem sh122 : cfg.shared 122 = false := by decide
theorem sh123 : cfg.shared 123 = false := by decide
theorem sh124 : cfg.shared 124 = false := by decide
theorem sh125 : cfg.shared 125 = false := by decide
theorem sh126 : cfg.shared 126 = false := by decide
theorem sh127 : cfg.shared 127 = false := by decide
theorem sh128 : cfg.shared 128 = false := by decide
theorem sh129 : cfg.shared 129 = false := by decide
theorem sh131 : cfg.shared 131 = false := by decide
theorem sh132 : cfg.shared 132 = false := by decide
theorem sh133 : cfg.shared 133 = false := by decide
theorem sh134 : cfg.shared 134 = false := by decide
theorem sh144 : cfg.shared 144 = false := by decide
theorem sh145 : cfg.shared 145 = false := by decide
theorem sh146 : cfg.shared 146 = false := by decide
theorem sh147 : cfg.shared 147 = false := by decide
theorem ag3 : aggT Tryz.prog 3 = some false := by kernel_rfl
theorem sz3 : szT Tryz.prog 3 = some 1 := by kernel_rfl
theorem by3 : byT Tryz.prog 3 = some 8 := by kernel_rfl
theorem ze3 : zeroT Tryz.prog 3 = some (.int .i64 0) := by kernel_rfl
theorem un3 : Tryz.prog.underlying 3 = some (.int .i64) := by kernel_rfl
theorem ag4 : aggT Tryz.prog 4 = some false := by kernel_rfl
theorem sz4 : szT Tryz.prog 4 = some 1 := by kernel_rfl
theorem by4 : byT Tryz.prog 4 = some 1 := by kernel_rfl
theorem ze4 : zeroT Tryz.prog 4 = some (.bool false) := by kernel_rfl
theorem un4 : Tryz.prog.underlying 4 = some .bool := by kernel_rfl
theorem ag5 : aggT Tryz.prog 5 = some false := by kernel_rfl
theorem sz5 : szT Tryz.prog 5 = some 1 := by kernel_rfl
theorem by5 : byT Tryz.prog 5 = some 1 := by kernel_rfl
theorem ze5 : zeroT Tryz.prog 5 = some (.int .u8 0) := by kernel_rfl
theorem un5 : Tryz.prog.underlying 5 = some (.int .u8) := by kernel_rfl
theorem ag9 : aggT Tryz.prog 9 = some false := by kernel_rfl
theorem sz9 : szT Tryz.prog 9 = some 1 := by kernel_rfl
theorem by9 : byT Tryz.prog 9 = some 16 := by kernel_rfl
theorem ze9 : zeroT Tryz.prog 9 = some (.str ByteArray.empty) := by kernel_rfl
theorem un9 : Tryz.prog.underlying 9 = some .string := by kernel_rfl
theorem ag23 : aggT Tryz.prog 23 = some false := by kernel_rfl
theorem sz23 : szT Tryz.prog 23 = some 1 := by kernel_rfl
theorem by23 : byT Tryz.prog 23 = some 24 := by kernel_rfl
theorem ze23 : zeroT Tryz.prog 23 = some (.snil) := by kernel_rfl
theorem un23 : Tryz.prog.underlying 23 = some (.slice 77) := by kernel_rfl
theorem el23 : elemT Tryz.prog 23 = some 77 := by kernel_rfl
theorem ag24 : aggT Tryz.prog 24 = some false := by kernel_rfl
theorem sz24 : szT Tryz.prog 24 = some 1 := by kernel_rfl
theorem by24 : byT Tryz.prog 24 = some 24 := by kernel_rfl
theorem ze24 : zeroT Tryz.prog 24 = some (.snil) := by kernel_rfl
theorem un24 : Tryz.prog.underlying 24 = some (.slice 38) := by kernel_rfl
theorem el24 : elemT Tryz.prog 24 = some 38 := by kernel_rfl
theorem ag26 : aggT Tryz.prog 26 = some true := by kernel_rfl
theorem sz26 : szT Tryz.prog 26 = some 3 := by kernel_rfl
theorem by26 : byT Tryz.prog 26 = some 24 := by kernel_rfl
theorem ze26 : zeroT Tryz.prog 26 = some (.agg [.int .i64 0, .int .i64 0, .int .i64 0]) := by kernel_rfl
theorem ag28 : aggT Tryz.prog 28 = some true := by kernel_rfl
theorem sz28 : szT Tryz.prog 28 = some 7 := by kernel_rfl
theorem by28 : byT Tryz.prog 28 = some 88 := by kernel_rfl
theorem ze28 : zeroT Tryz.prog 28 = some (.agg [.snil, .snil, .int .i64 0, .int .i64 0, .int .i64 0, .int .i64 0, .int .i64 0]) := by kernel_rfl
theorem ag29 : aggT Tryz.prog 29 = some false := by kernel_rfl
theorem sz29 : szT Tryz.prog 29 = some 1 := by kernel_rfl
theorem by29 : byT Tryz.prog 29 = some 24 := by kernel_rfl
theorem ze29 : zeroT Tryz.prog 29 = some (.snil) := by kernel_rfl
theorem un29 : Tryz.prog.underlying 29 = some (.slice 73) := by kernel_rfl
theorem el29 : elemT Tryz.prog 29 = some 73 := by kernel_rfl
theorem ag30 : aggT Tryz.prog 30 = some false := by kernel_rfl
theorem sz30 : szT Tryz.prog 30 = some 1 := by kernel_rfl
theorem by30 : byT Tryz.prog 30 = some 24 := by kernel_rfl
theorem ze30 : zeroT Tryz.prog 30 = some (.snil) := by kernel_rfl
theorem un30 : Tryz.prog.underlying 30 = some (.slice 3) := by kernel_rfl
theorem el30 : elemT Tryz.prog 30 = some 3 := by kernel_rfl
theorem ag32 : aggT Tryz.prog 32 = some true := by kernel_rfl
theorem sz32 : szT Tryz.prog 32 = some 3 := by kernel_rfl
theorem by32 : byT Tryz.prog 32 = some 56 := by kernel_rfl
theorem ze32 : zeroT Tryz.prog 32 = some (.agg [.snil, .snil, .int .i64 0]) := by kernel_rfl
theorem ag33 : aggT Tryz.prog 33 = some false := by kernel_rfl
theorem sz33 : szT Tryz.prog 33 = some 1 := by kernel_rfl
theorem by33 : byT Tryz.prog 33 = some 24 := by kernel_rfl
theorem ze33 : zeroT Tryz.prog 33 = some (.snil) := by kernel_rfl
theorem un33 : Tryz.prog.underlying 33 = some (.slice 54) := by kernel_rfl
theorem el33 : elemT Tryz.prog 33 = some 54 := by kernel_rfl
theorem ag34 : aggT Tryz.prog 34 = some false := by kernel_rfl
theorem sz34 : szT Tryz.prog 34 = some 1 := by kernel_rfl
theorem by34 : byT Tryz.prog 34 = some 24 := by kernel_rfl
theorem ze34 : zeroT Tryz.prog 34 = some (.snil) := by kernel_rfl
theorem un34 : Tryz.prog.underlying 34 = some (.slice 36) := by kernel_rfl
theorem el34 : elemT Tryz.prog 34 = some 36 := by kernel_rfl
theorem ag36 : aggT Tryz.prog 36 = some true := by kernel_rfl
theorem sz36 : szT Tryz.prog 36 = some 2 := by kernel_rfl
theorem by36 : byT Tryz.prog 36 = some 16 := by kernel_rfl
theorem ze36 : zeroT Tryz.prog 36 = some (.agg [.int .i64 0, .int .i64 0]) := by kernel_rfl
theorem ag38 : aggT Tryz.prog 38 = some true := by kernel_rfl
theorem sz38 : szT Tryz.prog 38 = some 2 := by kernel_rfl
theorem by38 : byT Tryz.prog 38 = some 16 := by kernel_rfl
theorem ze38 : zeroT Tryz.prog 38 = some (.agg [.int .i64 0, .int .i64 0]) := by kernel_rfl
theorem ag40 : aggT Tryz.prog 40 = some true := by kernel_rfl
theorem sz40 : szT Tryz.prog 40 = some 3 := by kernel_rfl
theorem by40 : byT Tryz.prog 40 = some 24 := by kernel_rfl
theorem ze40 : zeroT Tryz.prog 40 = some (.agg [.int .i64 0, .int .i64 0, .int .i64 0]) := by kernel_rfl
theorem ag41 : aggT Tryz.prog 41 = some false := by kernel_rfl
theorem sz41 : szT Tryz.prog 41 = some 1 := by kernel_rfl
theorem by41 : byT Tryz.prog 41 = some 8 := by kernel_rfl
theorem ze41 : zeroT Tryz.prog 41 = some (.int .i64 0) := by kernel_rfl
theorem un41 : Tryz.prog.underlying 41 = some (.int .i64) := by kernel_rfl
theorem ag43 : aggT Tryz.prog 43 = some true := by kernel_rfl
theorem sz43 : szT Tryz.prog 43 = some 19 := by kernel_rfl
theorem by43 : byT Tryz.prog 43 = some 232 := by kernel_rfl
theorem ze43 : zeroT Tryz.prog 43 = some (.agg [.snil, .int .i64 0, .int .i64 0, .int .i64 0, .snil, .snil, .int .i64 0, .snil, .snil, .int .i64 0, .int .i64 0, .int .i64 0, .int .i64 0, .int .i64 0, .int .i64 0, .int .i64 0, .int .i64 0, .int .i64 0, .int .i64 0]) := by kernel_rfl
theorem ag54 : aggT Tryz.prog 54 = some true := by kernel_rfl
theorem sz54 : szT Tryz.prog 54 = some 4 := by kernel_rfl
theorem by54 : byT Tryz.prog 54 = some 48 := by kernel_rfl
theorem ze54 : zeroT Tryz.prog 54 = some (.agg [.snil, .int .i64 0, .int .i64 0, .int .i64 0]) := by kernel_rfl
theorem ag58 : aggT Tryz.prog 58 = some false := by kernel_rfl
theorem sz58 : szT Tryz.prog 58 = some 1 := by kernel_rfl
theorem by58 : byT Tryz.prog 58 = some 24 := by kernel_rfl
theorem ze58 : zeroT Tryz.prog 58 = some (.snil) := by kernel_rfl
theorem un58 : Tryz.prog.underlying 58 = some (.slice 98) := by kernel_rfl
theorem el58 : elemT Tryz.prog 58 = some 98 := by kernel_rfl
theorem ag60 : aggT Tryz.prog 60 = some true := by kernel_rfl
theorem sz60 : szT Tryz.prog 60 = some 16 := by kernel_rfl
theorem by60 : byT Tryz.prog 60 = some 176 := by kernel_rfl
theorem ze60 : zeroT Tryz.prog 60 = some (.agg [.int .i64 0, .int .i64 0, .snil, .snil, .snil, .int .i64 0, .int .i64 0, .int .i64 0, .int .i64 0, .int .i64 0, .int .i64 0, .int .i64 0, .int .i64 0, .int .i64 0, .int .i64 0, .int .i64 0]) := by kernel_rfl
theorem ag73 : aggT Tryz.prog 73 = some true := by kernel_rfl
theorem sz73 : szT Tryz.prog 73 = some 18 := by kernel_rfl
theorem by73 : byT Tryz.prog 73 = some 192 := by kernel_rfl
theorem ze73 : zeroT Tryz.prog 73 = some (.agg [.int .i64 0, .bool false, .int .i64 0, .int .i64 0, .snil, .snil, .snil, .int .i64 0, .int .i64 0, .int .i64 0, .int .i64 0, .int .i64 0, .int .i64 0, .int .i64 0, .int .i64 0, .int .i64 0, .int .i64 0, .int .i64 0]) := by kernel_rfl
theorem ag75 : aggT Tryz.prog 75 = some false := by kernel_rfl
theorem sz75 : szT Tryz.prog 75 = some 1 := by kernel_rfl
theorem by75 : byT Tryz.prog 75 = some 24 := by kernel_rfl
theorem ze75 : zeroT Tryz.prog 75 = some (.snil) := by kernel_rfl
theorem un75 : Tryz.prog.underlying 75 = some (.slice 115) := by kernel_rfl
theorem el75 : elemT Tryz.prog 75 = some 115 := by kernel_rfl
theorem ag77 : aggT Tryz.prog 77 = some true := by kernel_rfl
theorem sz77 : szT Tryz.prog 77 = some 4 := by kernel_rfl
theorem by77 : byT Tryz.prog 77 = some 48 := by kernel_rfl
theorem ze77 : zeroT Tryz.prog 77 = some (.agg [.int .i64 0, .int .i64 0, .int .i64 0, .snil]) := by kernel_rfl
theorem ag92 : aggT Tryz.prog 92 = some true := by kernel_rfl
theorem sz92 : szT Tryz.prog 92 = some 13 := by kernel_rfl
theorem by92 : byT Tryz.prog 92 = some 104 := by kernel_rfl
theorem ze92 : zeroT Tryz.prog 92 = some (.agg [.int .i64 0, .int .i64 0, .int .i64 0, .int .i64 0, .int .i64 0, .int .i64 0, .int .i64 0, .int .i64 0, .int .i64 0, .int .i64 0, .int .i64 0, .int .i64 0, .int .i64 0]) := by kernel_rfl
theorem ag98 : aggT Tryz.prog 98 = some true := by kernel_rfl
theorem sz98 : szT Tryz.prog 98 = some 6 := by kernel_rfl
theorem by98 : byT Tryz.prog 98 = some 48 := by kernel_rfl
theorem ze98 : zeroT Tryz.prog 98 = some (.agg [.int .i64 0, .int .i64 0, .int .i64 0, .int .i64 0, .int .i64 0, .int .i64 0]) := by kernel_rfl
theorem ag105 : aggT Tryz.prog 105 = some false := by kernel_rfl
theorem sz105 : szT Tryz.prog 105 = some 1 := by kernel_rfl
theorem by105 : byT Tryz.prog 105 = some 8 := by kernel_rfl
theorem ze105 : zeroT Tryz.prog 105 = some (.nil) := by kernel_rfl
theorem ag108 : aggT Tryz.prog 108 = some false := by kernel_rfl
theorem sz108 : szT Tryz.prog 108 = some 1 := by kernel_rfl
theorem by108 : byT Tryz.prog 108 = some 24 := by kernel_rfl
theorem ze108 : zeroT Tryz.prog 108 = some (.snil) := by kernel_rfl
theorem un108 : Tryz.prog.underlying 108 = some (.slice 4) := by kernel_rfl
theorem el108 : elemT Tryz.prog 108 = some 4 := by kernel_rfl
theorem ag110 : aggT Tryz.prog 110 = some true := by kernel_rfl
theorem sz110 : szT Tryz.prog 110 = some 8 := by kernel_rfl
theorem by110 : byT Tryz.prog 110 = some 128 := by kernel_rfl
theorem ze110 : zeroT Tryz.prog 110 = some (.agg [.snil, .int .i64 0, .int .i64 0, .int .i64 0, .snil, .snil, .snil, .int .i64 0]) := by kernel_rfl
theorem ag115 : aggT Tryz.prog 115 = some true := by kernel_rfl
theorem sz115 : szT Tryz.prog 115 = some 3 := by kernel_rfl
theorem by115 : byT Tryz.prog 115 = some 24 := by kernel_rfl
theorem ze115 : zeroT Tryz.prog 115 = some (.agg [.int .i64 0, .int .i64 0, .int .i64 0]) := by kernel_rfl
theorem ag118 : aggT Tryz.prog 118 = some true := by kernel_rfl
theorem sz118 : szT Tryz.prog 118 = some 4 := by kernel_rfl
theorem by118 : byT Tryz.prog 118 = some 48 := by kernel_rfl
theorem ze118 : zeroT Tryz.prog 118 = some (.agg [.snil, .int .i64 0, .int .i64 0, .int .i64 0]) := by kernel_rfl
theorem ag130 : aggT Tryz.prog 130 = some false := by kernel_rfl
theorem sz130 : szT Tryz.prog 130 = some 1 := by kernel_rfl
theorem by130 : byT Tryz.prog 130 = some 24 := by kernel_rfl
theorem ze130 : zeroT Tryz.prog 130 = some (.snil) := by kernel_rfl
theorem un130 : Tryz.prog.underlying 130 = some (.slice 9) := by kernel_rfl
theorem el130 : elemT Tryz.prog 130 = some 9 := by kernel_rfl
theorem ag153 : aggT Tryz.prog 153 = some true := by kernel_rfl
theorem sz153 : szT Tryz.prog 153 = some 2 := by kernel_rfl
theorem by153 : byT Tryz.prog 153 = some 16 := by kernel_rfl
theorem ze153 : zeroT Tryz.prog 153 = some (.agg [.int .i64 0, .int .i64 0]) := by kernel_rfl
theorem ag156 : aggT Tryz.prog 156 = some false := by kernel_rfl
theorem sz156 : szT Tryz.prog 156 = some 1 := by kernel_rfl
theorem by156 : byT Tryz.prog 156 = some 8 := by kernel_rfl
theorem ze156 : zeroT Tryz.prog 156 = some (.int .u64 0) := by kernel_rfl
theorem un156 : Tryz.prog.underlying 156 = some (.int .u64) := by kernel_rfl
theorem ag169 : aggT Tryz.prog 169 = some false := by kernel_rfl
theorem sz169 : szT Tryz.prog 169 = some 1 := by kernel_rfl
theorem by169 : byT Tryz.prog 169 = some 4 := by kernel_rfl
theorem ze169 : zeroT Tryz.prog 169 = some (.int .u32 0) := by kernel_rfl
theorem un169 : Tryz.prog.underlying 169 = some (.int .u32) := by kernel_rfl
theorem ag172 : aggT Tryz.prog 172 = some false := by kernel_rfl
theorem sz172 : szT Tryz.prog 172 = some 1 := by kernel_rfl
theorem by172 : byT Tryz.prog 172 = some 8 := by kernel_rfl
theorem ze172 : zeroT Tryz.prog 172 = some (.int .u64 0) := by kernel_rfl
theorem un172 : Tryz.prog.underlying 172 = some (.int .u64) := by kernel_rfl
theorem ag180 : aggT Tryz.prog 180 = some false := by kernel_rfl
theorem sz180 : szT Tryz.prog 180 = some 1 := by kernel_rfl
theorem by180 : byT Tryz.prog 180 = some 24 := by kernel_rfl
theorem ze180 : zeroT Tryz.prog 180 = some (.snil) := by kernel_rfl
theorem un180 : Tryz.prog.underlying 180 = some (.slice 5) := by kernel_rfl
theorem el180 : elemT Tryz.prog 180 = some 5 := by kernel_rfl
theorem ag182 : aggT Tryz.prog 182 = some true := by kernel_rfl
theorem sz182 : szT Tryz.prog 182 = some 4 := by kernel_rfl
theorem by182 : byT Tryz.prog 182 = some 40 := by kernel_rfl
theorem ze182 : zeroT Tryz.prog 182 = some (.agg [.str ByteArray.empty, .int .i64 0, .int .i64 0, .int .i64 0]) := by kernel_rfl
theorem ag195 : aggT Tryz.prog 195 = some true := by kernel_rfl
theorem sz195 : szT Tryz.prog 195 = some 68 := by kernel_rfl
theorem by195 : byT Tryz.prog 195 = some 680 := by kernel_rfl
theorem ze195 : zeroT Tryz.prog 195 = some (.agg [.str ByteArray.empty, .int .i64 0, .int .i64 0, .int .i64 0, .str ByteArray.empty, .int .i64 0, .int .i64 0, .int .i64 0, .str ByteArray.empty, .int .i64 0, .int .i64 0, .int .i64 0, .str ByteArray.empty, .int .i64 0, .int .i64 0, .int .i64 0, .str ByteArray.empty, .int .i64 0, .int .i64 0, .int .i64 0, .str ByteArray.empty, .int .i64 0, .int .i64 0, .int .i64 0, .str ByteArray.empty, .int .i64 0, .int .i64 0, .int .i64 0, .str ByteArray.empty, .int .i64 0, .int .i64 0, .int .i64 0, .str ByteArray.empty, .int .i64 0, .int .i64 0, .int .i64 0, .str ByteArray.empty, .int .i64 0, .int .i64 0, .int .i64 0, .str ByteArray.empty, .int .i64 0, .int .i64 0, .int .i64 0, .str ByteArray.empty, .int .i64 0, .int .i64 0, .int .i64 0, .str ByteArray.empty, .int .i64 0, .int .i64 0, .int .i64 0, .str ByteArray.empty, .int .i64 0, .int .i64 0, .int .i64 0, .str ByteArray.empty, .int .i64 0, .int .i64 0, .int .i64 0, .str ByteArray.empty, .int .i64 0, .int .i64 0, .int .i64 0, .str ByteArray.empty, .int .i64 0, .int .i64 0, .int .i64 0]) := by kernel_rfl
theorem un195 : Tryz.prog.underlying 195 = some (.array 17 182) := by kernel_rfl
theorem fp26_0 : ∀ id ver i j, fieldAddrD Tryz.prog 26 0 (.ptr id ver i j) = some (.ptr id ver i (j + 0)) := fun id ver i j => fd_of (ty := 3) (by kernel_rfl) sz3 (by decide) _
theorem fq26_0 : ∀ z xs i j, fieldAddrD Tryz.prog 26 0 (.fptr z xs i j) = some (.fptr z xs i (j + 0)) := fun z xs i j => fd_of (ty := 3) (by kernel_rfl) sz3 (by decide) _
theorem fp26_1 : ∀ id ver i j, fieldAddrD Tryz.prog 26 1 (.ptr id ver i j) = some (.ptr id ver i (j + 1)) := fun id ver i j => fd_of (ty := 3) (by kernel_rfl) sz3 (by decide) _
theorem fq26_1 : ∀ z xs i j, fieldAddrD Tryz.prog 26 1 (.fptr z xs i j) = some (.fptr z xs i (j + 1)) := fun z xs i j => fd_of (ty := 3) (by kernel_rfl) sz3 (by decide) _
theorem fp26_2 : ∀ id ver i j, fieldAddrD Tryz.prog 26 2 (.ptr id ver i j) = some (.ptr id ver i (j + 2)) := fun id ver i j => fd_of (ty := 3) (by kernel_rfl) sz3 (by decide) _
theorem fq26_2 : ∀ z xs i j, fieldAddrD Tryz.prog 26 2 (.fptr z xs i j) = some (.fptr z xs i (j + 2)) := fun z xs i j => fd_of (ty := 3) (by kernel_rfl) sz3 (by decide) _
theorem fp28_0 : ∀ id ver i j, fieldAddrD Tryz.prog 28 0 (.ptr id ver i j) = some (.ptr id ver i (j + 0)) := fun id ver i j => fd_of (ty := 23) (by kernel_rfl) sz23 (by decide) _
theorem fq28_0 : ∀ z xs i j, fieldAddrD Tryz.prog 28 0 (.fptr z xs i j) = some (.fptr z xs i (j + 0)) := fun z xs i j => fd_of (ty := 23) (by kernel_rfl) sz23 (by decide) _
theorem fp28_1 : ∀ id ver i j, fieldAddrD Tryz.prog 28 1 (.ptr id ver i j) = some (.ptr id ver i (j + 1)) := fun id ver i j => fd_of (ty := 24) (by kernel_rfl) sz24 (by decide) _
theorem fq28_1 : ∀ z xs i j, fieldAddrD Tryz.prog 28 1 (.fptr z xs i j) = some (.fptr z xs i (j + 1)) := fun z xs i j => fd_of (ty := 24) (by kernel_rfl) sz24 (by decide) _
theorem fp28_2 : ∀ id ver i j, fieldAddrD Tryz.prog 28 2 (.ptr id ver i j) = some (.ptr id ver i (j + 2)) := fun id ver i j => fd_of (ty := 3) (by kernel_rfl) sz3 (by decide) _
theorem fq28_2 : ∀ z xs i j, fieldAddrD Tryz.prog 28 2 (.fptr z xs i j) = some (.fptr z xs i (j + 2)) := fun z xs i j => fd_of (ty := 3) (by kernel_rfl) sz3 (by decide) _
theorem fp28_3 : ∀ id ver i j, fieldAddrD Tryz.prog 28 3 (.ptr id ver i j) = some (.ptr id ver i (j + 3)) := fun id ver i j => fd_of (ty := 3) (by kernel_rfl) sz3 (by decide) _
theorem fq28_3 : ∀ z xs i j, fieldAddrD Tryz.prog 28 3 (.fptr z xs i j) = some (.fptr z xs i (j + 3)) := fun z xs i j => fd_of (ty := 3) (by kernel_rfl) sz3 (by decide) _
theorem fp28_4 : ∀ id ver i j, fieldAddrD Tryz.prog 28 4 (.ptr id ver i j) = some (.ptr id ver i (j + 4)) := fun id ver i j => fd_of (ty := 26) (by kernel_rfl) sz26 (by decide) _
theorem fq28_4 : ∀ z xs i j, fieldAddrD Tryz.prog 28 4 (.fptr z xs i j) = some (.fptr z xs i (j + 4)) := fun z xs i j => fd_of (ty := 26) (by kernel_rfl) sz26 (by decide) _
theorem fp32_0 : ∀ id ver i j, fieldAddrD Tryz.prog 32 0 (.ptr id ver i j) = some (.ptr id ver i (j + 0)) := fun id ver i j => fd_of (ty := 29) (by kernel_rfl) sz29 (by decide) _
theorem fq32_0 : ∀ z xs i j, fieldAddrD Tryz.prog 32 0 (.fptr z xs i j) = some (.fptr z xs i (j + 0)) := fun z xs i j => fd_of (ty := 29) (by kernel_rfl) sz29 (by decide) _
theorem fp32_1 : ∀ id ver i j, fieldAddrD Tryz.prog 32 1 (.ptr id ver i j) = some (.ptr id ver i (j + 1)) := fun id ver i j => fd_of (ty := 30) (by kernel_rfl) sz30 (by decide) _
theorem fq32_1 : ∀ z xs i j, fieldAddrD Tryz.prog 32 1 (.fptr z xs i j) = some (.fptr z xs i (j + 1)) := fun z xs i j => fd_of (ty := 30) (by kernel_rfl) sz30 (by decide) _
theorem fp32_2 : ∀ id ver i j, fieldAddrD Tryz.prog 32 2 (.ptr id ver i j) = some (.ptr id ver i (j + 2)) := fun id ver i j => fd_of (ty := 3) (by kernel_rfl) sz3 (by decide) _
theorem fq32_2 : ∀ z xs i j, fieldAddrD Tryz.prog 32 2 (.fptr z xs i j) = some (.fptr z xs i (j + 2)) := fun z xs i j => fd_of (ty := 3) (by kernel_rfl) sz3 (by decide) _
theorem fp36_0 : ∀ id ver i j, fieldAddrD Tryz.prog 36 0 (.ptr id ver i j) = some (.ptr id ver i (j + 0)) := fun id ver i j => fd_of (ty := 3) (by kernel_rfl) sz3 (by decide) _
theorem fq36_0 : ∀ z xs i j, fieldAddrD Tryz.prog 36 0 (.fptr z xs i j) = some (.fptr z xs i (j + 0)) := fun z xs i j => fd_of (ty := 3) (by kernel_rfl) sz3 (by decide) _
theorem fp36_1 : ∀ id ver i j, fieldAddrD Tryz.prog 36 1 (.ptr id ver i j) = some (.ptr id ver i (j + 1)) := fun id ver i j => fd_of (ty := 3) (by kernel_rfl) sz3 (by decide) _
theorem fq36_1 : ∀ z xs i j, fieldAddrD Tryz.prog 36 1 (.fptr z xs i j) = some (.fptr z xs i (j + 1)) := fun z xs i j => fd_of (ty := 3) (by kernel_rfl) sz3 (by decide) _
theorem fp38_0 : ∀ id ver i j, fieldAddrD Tryz.prog 38 0 (.ptr id ver i j) = some (.ptr id ver i (j + 0)) := fun id ver i j => fd_of (ty := 3) (by kernel_rfl) sz3 (by decide) _
theorem fq38_0 : ∀ z xs i j, fieldAddrD Tryz.prog 38 0 (.fptr z xs i j) = some (.fptr z xs i (j + 0)) := fun z xs i j => fd_of (ty := 3) (by kernel_rfl) sz3 (by decide) _
theorem fp38_1 : ∀ id ver i j, fieldAddrD Tryz.prog 38 1 (.ptr id ver i j) = some (.ptr id ver i (j + 1)) := fun id ver i j => fd_of (ty := 3) (by kernel_rfl) sz3 (by decide) _
theorem fq38_1 : ∀ z xs i j, fieldAddrD Tryz.prog 38 1 (.fptr z xs i j) = some (.fptr z xs i (j + 1)) := fun z xs i j => fd_of (ty := 3) (by kernel_rfl) sz3 (by decide) _
theorem fp43_0 : ∀ id ver i j, fieldAddrD Tryz.prog 43 0 (.ptr id ver i j) = some (.ptr id ver i (j + 0)) := fun id ver i j => fd_of (ty := 23) (by kernel_rfl) sz23 (by decide) _
theorem fq43_0 : ∀ z xs i j, fieldAddrD Tryz.prog 43 0 (.fptr z xs i j) = some (.fptr z xs i (j + 0)) := fun z xs i j => fd_of (ty := 23) (by kernel_rfl) sz23 (by decide) _
theorem fp43_1 : ∀ id ver i j, fieldAddrD Tryz.prog 43 1 (.ptr id ver i j) = some (.ptr id ver i (j + 1)) := fun id ver i j => fd_of (ty := 26) (by kernel_rfl) sz26 (by decide) _
theorem fq43_1 : ∀ z xs i j, fieldAddrD Tryz.prog 43 1 (.fptr z xs i j) = some (.fptr z xs i (j + 1)) := fun z xs i j => fd_of (ty := 26) (by kernel_rfl) sz26 (by decide) _
theorem fp43_2 : ∀ id ver i j, fieldAddrD Tryz.prog 43 2 (.ptr id ver i j) = some (.ptr id ver i (j + 4)) := fun id ver i j => fd_of (ty := 32) (by kernel_rfl) sz32 (by decide) _
theorem fq43_2 : ∀ z xs i j, fieldAddrD Tryz.prog 43 2 (.fptr z xs i j) = some (.fptr z xs i (j + 4)) := fun z xs i j => fd_of (ty := 32) (by kernel_rfl) sz32 (by decide) _
theorem fp43_3 : ∀ id ver i j, fieldAddrD Tryz.prog 43 3 (.ptr id ver i j) = some (.ptr id ver i (j + 7)) := fun id ver i j => fd_of (ty := 33) (by kernel_rfl) sz33 (by decide) _
theorem fq43_3 : ∀ z xs i j, fieldAddrD Tryz.prog 43 3 (.fptr z xs i j) = some (.fptr z xs i (j + 7)) := fun z xs i j => fd_of (ty := 33) (by kernel_rfl) sz33 (by decide) _
theorem fp43_4 : ∀ id ver i j, fieldAddrD Tryz.prog 43 4 (.ptr id ver i j) = some (.ptr id ver i (j + 8)) := fun id ver i j => fd_of (ty := 34) (by kernel_rfl) sz34 (by decide) _
theorem fq43_4 : ∀ z xs i j, fieldAddrD Tryz.prog 43 4 (.fptr z xs i j) = some (.fptr z xs i (j + 8)) := fun z xs i j => fd_of (ty := 34) (by kernel_rfl) sz34 (by decide) _
theorem fp43_5 : ∀ id ver i j, fieldAddrD Tryz.prog 43 5 (.ptr id ver i j) = some (.ptr id ver i (j + 9)) := fun id ver i j => fd_of (ty := 36) (by kernel_rfl) sz36 (by decide) _
theorem fq43_5 : ∀ z xs i j, fieldAddrD Tryz.prog 43 5 (.fptr z xs i j) = some (.fptr z xs i (j + 9)) := fun z xs i j => fd_of (ty := 36) (by kernel_rfl) sz36 (by decide) _
theorem fp43_6 : ∀ id ver i j, fieldAddrD Tryz.prog 43 6 (.ptr id ver i j) = some (.ptr id ver i (j + 11)) := fun id ver i j => fd_of (ty := 3) (by kernel_rfl) sz3 (by decide) _
theorem fq43_6 : ∀ z xs i j, fieldAddrD Tryz.prog 43 6 (.fptr z xs i j) = some (.fptr z xs i (j + 11)) := fun z xs i j => fd_of (ty := 3) (by kernel_rfl) sz3 (by decide) _
theorem fp43_7 : ∀ id ver i j, fieldAddrD Tryz.prog 43 7 (.ptr id ver i j) = some (.ptr id ver i (j + 12)) := fun id ver i j => fd_of (ty := 3) (by kernel_rfl) sz3 (by decide) _
theorem fq43_7 : ∀ z xs i j, fieldAddrD Tryz.prog 43 7 (.fptr z xs i j) = some (.fptr z xs i (j + 12)) := fun z xs i j => fd_of (ty := 3) (by kernel_rfl) sz3 (by decide) _
theorem fp43_8 : ∀ id ver i j, fieldAddrD Tryz.prog 43 8 (.ptr id ver i j) = some (.ptr id ver i (j + 13)) := fun id ver i j => fd_of (ty := 40) (by kernel_rfl) sz40 (by decide) _
theorem fq43_8 : ∀ z xs i j, fieldAddrD Tryz.prog 43 8 (.fptr z xs i j) = some (.fptr z xs i (j + 13)) := fun z xs i j => fd_of (ty := 40) (by kernel_rfl) sz40 (by decide) _
theorem fp43_9 : ∀ id ver i j, fieldAddrD Tryz.prog 43 9 (.ptr id ver i j) = some (.ptr id ver i (j + 16)) := fun id ver i j => fd_of (ty := 41) (by kernel_rfl) sz41 (by decide) _
theorem fq43_9 : ∀ z xs i j, fieldAddrD Tryz.prog 43 9 (.fptr z xs i j) = some (.fptr z xs i (j + 16)) := fun z xs i j => fd_of (ty := 41) (by kernel_rfl) sz41 (by decide) _
theorem fp43_10 : ∀ id ver i j, fieldAddrD Tryz.prog 43 10 (.ptr id ver i j) = some (.ptr id ver i (j + 17)) := fun id ver i j => fd_of (ty := 3) (by kernel_rfl) sz3 (by decide) _
theorem fq43_10 : ∀ z xs i j, fieldAddrD Tryz.prog 43 10 (.fptr z xs i j) = some (.fptr z xs i (j + 17)) := fun z xs i j => fd_of (ty := 3) (by kernel_rfl) sz3 (by decide) _
theorem fp43_11 : ∀ id ver i j, fieldAddrD Tryz.prog 43 11 (.ptr id ver i j) = some (.ptr id ver i (j + 18)) := fun id ver i j => fd_of (ty := 3) (by kernel_rfl) sz3 (by decide) _
theorem fq43_11 : ∀ z xs i j, fieldAddrD Tryz.prog 43 11 (.fptr z xs i j) = some (.fptr z xs i (j + 18)) := fun z xs i j => fd_of (ty := 3) (by kernel_rfl) sz3 (by decide) _
theorem fp54_0 : ∀ id ver i j, fieldAddrD Tryz.prog 54 0 (.ptr id ver i j) = some (.ptr id ver i (j + 0)) := fun id ver i j => fd_of (ty := 34) (by kernel_rfl) sz34 (by decide) _
theorem fq54_0 : ∀ z xs i j, fieldAddrD Tryz.prog 54 0 (.fptr z xs i j) = some (.fptr z xs i (j + 0)) := fun z xs i j => fd_of (ty := 34) (by kernel_rfl) sz34 (by decide) _
theorem fp54_1 : ∀ id ver i j, fieldAddrD Tryz.prog 54 1 (.ptr id ver i j) = some (.ptr id ver i (j + 1)) := fun id ver i j => fd_of (ty := 3) (by kernel_rfl) sz3 (by decide) _
theorem fq54_1 : ∀ z xs i j, fieldAddrD Tryz.prog 54 1 (.fptr z xs i j) = some (.fptr z xs i (j + 1)) := fun z xs i j => fd_of (ty := 3) (by kernel_rfl) sz3 (by decide) _
theorem fp54_2 : ∀ id ver i j, fieldAddrD Tryz.prog 54 2 (.ptr id ver i j) = some (.ptr id ver i (j + 2)) := fun id ver i j => fd_of (ty := 3) (by kernel_rfl) sz3 (by decide) _
theorem fq54_2 : ∀ z xs i j, fieldAddrD Tryz.prog 54 2 (.fptr z xs i j) = some (.fptr z xs i (j + 2)) := fun z xs i j => fd_of (ty := 3) (by kernel_rfl) sz3 (by decide) _
theorem fp54_3 : ∀ id ver i j, fieldAddrD Tryz.prog 54 3 (.ptr id ver i j) = some (.ptr id ver i (j + 3)) := fun id ver i j => fd_of (ty := 3) (by kernel_rfl) sz3 (by decide) _
theorem fq54_3 : ∀ z xs i j, fieldAddrD Tryz.prog 54 3 (.fptr z xs i j) = some (.fptr z xs i (j + 3)) := fun z xs i j => fd_of (ty := 3) (by kernel_rfl) sz3 (by decide) _
theorem fp60_0 : ∀ id ver i j, fieldAddrD Tryz.prog 60 0 (.ptr id ver i j) = some (.ptr id ver i (j + 0)) := fun id ver i j => fd_of (ty := 3) (by kernel_rfl) sz3 (by decide) _
theorem fq60_0 : ∀ z xs i j, fieldAddrD Tryz.prog 60 0 (.fptr z xs i j) = some (.fptr z xs i (j + 0)) := fun z xs i j => fd_of (ty := 3) (by kernel_rfl) sz3 (by decide) _
theorem fp60_1 : ∀ id ver i j, fieldAddrD Tryz.prog 60 1 (.ptr id ver i j) = some (.ptr id ver i (j + 1)) := fun id ver i j => fd_of (ty := 3) (by kernel_rfl) sz3 (by decide) _
theorem fq60_1 : ∀ z xs i j, fieldAddrD Tryz.prog 60 1 (.fptr z xs i j) = some (.fptr z xs i (j + 1)) := fun z xs i j => fd_of (ty := 3) (by kernel_rfl) sz3 (by decide) _
theorem fp60_2 : ∀ id ver i j, fieldAddrD Tryz.prog 60 2 (.ptr id ver i j) = some (.ptr id ver i (j + 2)) := fun id ver i j => fd_of (ty := 24) (by kernel_rfl) sz24 (by decide) _
theorem fq60_2 : ∀ z xs i j, fieldAddrD Tryz.prog 60 2 (.fptr z xs i j) = some (.fptr z xs i (j + 2)) := fun z xs i j => fd_of (ty := 24) (by kernel_rfl) sz24 (by decide) _
theorem fp60_3 : ∀ id ver i j, fieldAddrD Tryz.prog 60 3 (.ptr id ver i j) = some (.ptr id ver i (j + 3)) := fun id ver i j => fd_of (ty := 24) (by kernel_rfl) sz24 (by decide) _
theorem fq60_3 : ∀ z xs i j, fieldAddrD Tryz.prog 60 3 (.fptr z xs i j) = some (.fptr z xs i (j + 3)) := fun z xs i j => fd_of (ty := 24) (by kernel_rfl) sz24 (by decide) _
theorem fp60_4 : ∀ id ver i j, fieldAddrD Tryz.prog 60 4 (.ptr id ver i j) = some (.ptr id ver i (j + 4)) := fun id ver i j => fd_of (ty := 58) (by kernel_rfl) sz58 (by decide) _
theorem fq60_4 : ∀ z xs i j, fieldAddrD Tryz.prog 60 4 (.fptr z xs i j) = some (.fptr z xs i (j + 4)) := fun z xs i j => fd_of (ty := 58) (by kernel_rfl) sz58 (by decide) _
theorem fp60_5 : ∀ id ver i j, fieldAddrD Tryz.prog 60 5 (.ptr id ver i j) = some (.ptr id ver i (j + 5)) := fun id ver i j => fd_of (ty := 3) (by kernel_rfl) sz3 (by decide) _
theorem fq60_5 : ∀ z xs i j, fieldAddrD Tryz.prog 60 5 (.fptr z xs i j) = some (.fptr z xs i (j + 5)) := fun z xs i j => fd_of (ty := 3) (by kernel_rfl) sz3 (by decide) _
theorem fp60_6 : ∀ id ver i j, fieldAddrD Tryz.prog 60 6 (.ptr id ver i j) = some (.ptr id ver i (j + 6)) := fun id ver i j => fd_of (ty := 3) (by kernel_rfl) sz3 (by decide) _
theorem fq60_6 : ∀ z xs i j, fieldAddrD Tryz.prog 60 6 (.fptr z xs i j) = some (.fptr z xs i (j + 6)) := fun z xs i j => fd_of (ty := 3) (by kernel_rfl) sz3 (by decide) _
theorem fp60_7 : ∀ id ver i j, fieldAddrD Tryz.prog 60 7 (.ptr id ver i j) = some (.ptr id ver i (j + 7)) := fun id ver i j => fd_of (ty := 3) (by kernel_rfl) sz3 (by decide) _
theorem fq60_7 : ∀ z xs i j, fieldAddrD Tryz.prog 60 7 (.fptr z xs i j) = some (.fptr z xs i (j + 7)) := fun z xs i j => fd_of (ty := 3) (by kernel_rfl) sz3 (by decide) _
theorem fp60_8 : ∀ id ver i j, fieldAddrD Tryz.prog 60 8 (.ptr id ver i j) = some (.ptr id ver i (j + 8)) := fun id ver i j => fd_of (ty := 3) (by kernel_rfl) sz3 (by decide) _
theorem fq60_8 : ∀ z xs i j, fieldAddrD Tryz.prog 60 8 (.fptr z xs i j) = some (.fptr z xs i (j + 8)) := fun z xs i j => fd_of (ty := 3) (by kernel_rfl) sz3 (by decide) _
theorem fp60_9 : ∀ id ver i j, fieldAddrD Tryz.prog 60 9 (.ptr id ver i j) = some (.ptr id ver i (j + 9)) := fun id ver i j => fd_of (ty := 3) (by kernel_rfl) sz3 (by decide) _
theorem fq60_9 : ∀ z xs i j, fieldAddrD Tryz.prog 60 9 (.fptr z xs i j) = some (.fptr z xs i (j + 9)) := fun z xs i j => fd_of (ty := 3) (by kernel_rfl) sz3 (by decide) _
theorem fp60_10 : ∀ id ver i j, fieldAddrD Tryz.prog 60 10 (.ptr id ver i j) = some (.ptr id ver i (j + 10)) := fun id ver i j => fd_of (ty := 40) (by kernel_rfl) sz40 (by decide) _
theorem fq60_10 : ∀ z xs i j, fieldAddrD Tryz.prog 60 10 (.fptr z xs i j) = some (.fptr z xs i (j + 10)) := fun z xs i j => fd_of (ty := 40) (by kernel_rfl) sz40 (by decide) _
theorem fp60_11 : ∀ id ver i j, fieldAddrD Tryz.prog 60 11 (.ptr id ver i j) = some (.ptr id ver i (j + 13)) := fun id ver i j => fd_of (ty := 36) (by kernel_rfl) sz36 (by decide) _
theorem fq60_11 : ∀ z xs i j, fieldAddrD Tryz.prog 60 11 (.fptr z xs i j) = some (.fptr z xs i (j + 13)) := fun z xs i j => fd_of (ty := 36) (by kernel_rfl) sz36 (by decide) _
theorem fp60_12 : ∀ id ver i j, fieldAddrD Tryz.prog 60 12 (.ptr id ver i j) = some (.ptr id ver i (j + 15)) := fun id ver i j => fd_of (ty := 3) (by kernel_rfl) sz3 (by decide) _
theorem fq60_12 : ∀ z xs i j, fieldAddrD Tryz.prog 60 12 (.fptr z xs i j) = some (.fptr z xs i (j + 15)) := fun z xs i j => fd_of (ty := 3) (by kernel_rfl) sz3 (by decide) _
theorem fp73_0 : ∀ id ver i j, fieldAddrD Tryz.prog 73 0 (.ptr id ver i j) = some (.ptr id ver i (j + 0)) := fun id ver i j => fd_of (ty := 3) (by kernel_rfl) sz3 (by decide) _
theorem fq73_0 : ∀ z xs i j, fieldAddrD Tryz.prog 73 0 (.fptr z xs i j) = some (.fptr z xs i (j + 0)) := fun z xs i j => fd_of (ty := 3) (by kernel_rfl) sz3 (by decide) _
theorem fp73_1 : ∀ id ver i j, fieldAddrD Tryz.prog 73 1 (.ptr id ver i j) = some (.ptr id ver i (j + 1)) := fun id ver i j => fd_of (ty := 4) (by kernel_rfl) sz4 (by decide) _
theorem fq73_1 : ∀ z xs i j, fieldAddrD Tryz.prog 73 1 (.fptr z xs i j) = some (.fptr z xs i (j + 1)) := fun z xs i j => fd_of (ty := 4) (by kernel_rfl) sz4 (by decide) _
theorem fp73_2 : ∀ id ver i j, fieldAddrD Tryz.prog 73 2 (.ptr id ver i j) = some (.ptr id ver i (j + 2)) := fun id ver i j => fd_of (ty := 60) (by kernel_rfl) sz60 (by decide) _
theorem fq73_2 : ∀ z xs i j, fieldAddrD Tryz.prog 73 2 (.fptr z xs i j) = some (.fptr z xs i (j + 2)) := fun z xs i j => fd_of (ty := 60) (by kernel_rfl) sz60 (by decide) _
theorem fp77_0 : ∀ id ver i j, fieldAddrD Tryz.prog 77 0 (.ptr id ver i j) = some (.ptr id ver i (j + 0)) := fun id ver i j => fd_of (ty := 3) (by kernel_rfl) sz3 (by decide) _
theorem fq77_0 : ∀ z xs i j, fieldAddrD Tryz.prog 77 0 (.fptr z xs i j) = some (.fptr z xs i (j + 0)) := fun z xs i j => fd_of (ty := 3) (by kernel_rfl) sz3 (by decide) _
theorem fp77_1 : ∀ id ver i j, fieldAddrD Tryz.prog 77 1 (.ptr id ver i j) = some (.ptr id ver i (j + 1)) := fun id ver i j => fd_of (ty := 3) (by kernel_rfl) sz3 (by decide) _
theorem fq77_1 : ∀ z xs i j, fieldAddrD Tryz.prog 77 1 (.fptr z xs i j) = some (.fptr z xs i (j + 1)) := fun z xs i j => fd_of (ty := 3) (by kernel_rfl) sz3 (by decide) _
theorem fp77_2 : ∀ id ver i j, fieldAddrD Tryz.prog 77 2 (.ptr id ver i j) = some (.ptr id ver i (j + 2)) := fun id ver i j => fd_of (ty := 3) (by kernel_rfl) sz3 (by decide) _
theorem fq77_2 : ∀ z xs i j, fieldAddrD Tryz.prog 77 2 (.fptr z xs i j) = some (.fptr z xs i (j + 2)) := fun z xs i j => fd_of (ty := 3) (by kernel_rfl) sz3 (by decide) _
theorem fp77_3 : ∀ id ver i j, fieldAddrD Tryz.prog 77 3 (.ptr id ver i j) = some (.ptr id ver i (j + 3)) := fun id ver i j => fd_of (ty := 75) (by kernel_rfl) sz75 (by decide) _
theorem fq77_3 : ∀ z xs i j, fieldAddrD Tryz.prog 77 3 (.fptr z xs i j) = some (.fptr z xs i (j + 3)) := fun z xs i j => fd_of (ty := 75) (by kernel_rfl) sz75 (by decide) _
theorem fp110_0 : ∀ id ver i j, fieldAddrD Tryz.prog 110 0 (.ptr id ver i j) = some (.ptr id ver i (j + 0)) := fun id ver i j => fd_of (ty := 23) (by kernel_rfl) sz23 (by decide) _
theorem fq110_0 : ∀ z xs i j, fieldAddrD Tryz.prog 110 0 (.fptr z xs i j) = some (.fptr z xs i (j + 0)) := fun z xs i j => fd_of (ty := 23) (by kernel_rfl) sz23 (by decide) _
theorem fp110_1 : ∀ id ver i j, fieldAddrD Tryz.prog 110 1 (.ptr id ver i j) = some (.ptr id ver i (j + 1)) := fun id ver i j => fd_of (ty := 77) (by kernel_rfl) sz77 (by decide) _
theorem fq110_1 : ∀ z xs i j, fieldAddrD Tryz.prog 110 1 (.fptr z xs i j) = some (.fptr z xs i (j + 1)) := fun z xs i j => fd_of (ty := 77) (by kernel_rfl) sz77 (by decide) _
theorem fp110_2 : ∀ id ver i j, fieldAddrD Tryz.prog 110 2 (.ptr id ver i j) = some (.ptr id ver i (j + 5)) := fun id ver i j => fd_of (ty := 30) (by kernel_rfl) sz30 (by decide) _
theorem fq110_2 : ∀ z xs i j, fieldAddrD Tryz.prog 110 2 (.fptr z xs i j) = some (.fptr z xs i (j + 5)) := fun z xs i j => fd_of (ty := 30) (by kernel_rfl) sz30 (by decide) _
theorem fp110_3 : ∀ id ver i j, fieldAddrD Tryz.prog 110 3 (.ptr id ver i j) = some (.ptr id ver i (j + 6)) := fun id ver i j => fd_of (ty := 108) (by kernel_rfl) sz108 (by decide) _
theorem fq110_3 : ∀ z xs i j, fieldAddrD Tryz.prog 110 3 (.fptr z xs i j) = some (.fptr z xs i (j + 6)) := fun z xs i j => fd_of (ty := 108) (by kernel_rfl) sz108 (by decide) _
theorem fp110_4 : ∀ id ver i j, fieldAddrD Tryz.prog 110 4 (.ptr id ver i j) = some (.ptr id ver i (j + 7)) := fun id ver i j => fd_of (ty := 3) (by kernel_rfl) sz3 (by decide) _
theorem fq110_4 : ∀ z xs i j, fieldAddrD Tryz.prog 110 4 (.fptr z xs i j) = some (.fptr z xs i (j + 7)) := fun z xs i j => fd_of (ty := 3) (by kernel_rfl) sz3 (by decide) _
theorem fp115_0 : ∀ id ver i j, fieldAddrD Tryz.prog 115 0 (.ptr id ver i j) = some (.ptr id ver i (j + 0)) := fun id ver i j => fd_of (ty := 3) (by kernel_rfl) sz3 (by decide) _
theorem fq115_0 : ∀ z xs i j, fieldAddrD Tryz.prog 115 0 (.fptr z xs i j) = some (.fptr z xs i (j + 0)) := fun z xs i j => fd_of (ty := 3) (by kernel_rfl) sz3 (by decide) _
theorem fp115_1 : ∀ id ver i j, fieldAddrD Tryz.prog 115 1 (.ptr id ver i j) = some (.ptr id ver i (j + 1)) := fun id ver i j => fd_of (ty := 3) (by kernel_rfl) sz3 (by decide) _
theorem fq115_1 : ∀ z xs i j, fieldAddrD Tryz.prog 115 1 (.fptr z xs i j) = some (.fptr z xs i (j + 1)) := fun z xs i j => fd_of (ty := 3) (by kernel_rfl) sz3 (by decide) _
theorem fp115_2 : ∀ id ver i j, fieldAddrD Tryz.prog 115 2 (.ptr id ver i j) = some (.ptr id ver i (j + 2)) := fun id ver i j => fd_of (ty := 3) (by kernel_rfl) sz3 (by decide) _
theorem fq115_2 : ∀ z xs i j, fieldAddrD Tryz.prog 115 2 (.fptr z xs i j) = some (.fptr z xs i (j + 2)) := fun z xs i j => fd_of (ty := 3) (by kernel_rfl) sz3 (by decide) _
theorem fp118_0 : ∀ id ver i j, fieldAddrD Tryz.prog 118 0 (.ptr id ver i j) = some (.ptr id ver i (j + 0)) := fun id ver i j => fd_of (ty := 54) (by kernel_rfl) sz54 (by decide) _
theorem fq118_0 : ∀ z xs i j, fieldAddrD Tryz.prog 118 0 (.fptr z xs i j) = some (.fptr z xs i (j + 0)) := fun z xs i j => fd_of (ty := 54) (by kernel_rfl) sz54 (by decide) _
theorem fp153_0 : ∀ id ver i j, fieldAddrD Tryz.prog 153 0 (.ptr id ver i j) = some (.ptr id ver i (j + 0)) := fun id ver i j => fd_of (ty := 3) (by kernel_rfl) sz3 (by decide) _
theorem fq153_0 : ∀ z xs i j, fieldAddrD Tryz.prog 153 0 (.fptr z xs i j) = some (.fptr z xs i (j + 0)) := fun z xs i j => fd_of (ty := 3) (by kernel_rfl) sz3 (by decide) _
theorem fp153_1 : ∀ id ver i j, fieldAddrD Tryz.prog 153 1 (.ptr id ver i j) = some (.ptr id ver i (j + 1)) := fun id ver i j => fd_of (ty := 3) (by kernel_rfl) sz3 (by decide) _
theorem fq153_1 : ∀ z xs i j, fieldAddrD Tryz.prog 153 1 (.fptr z xs i j) = some (.fptr z xs i (j + 1)) := fun z xs i j => fd_of (ty := 3) (by kernel_rfl) sz3 (by decide) _
theorem fp182_2 : ∀ id ver i j, fieldAddrD Tryz.prog 182 2 (.ptr id ver i j) = some (.ptr id ver i (j + 2)) := fun id ver i j => fd_of (ty := 3) (by kernel_rfl) sz3 (by decide) _
theorem fq182_2 : ∀ z xs i j, fieldAddrD Tryz.prog 182 2 (.fptr z xs i j) = some (.fptr z xs i (j + 2)) := fun z xs i j => fd_of (ty := 3) (by kernel_rfl) sz3 (by decide) _
theorem fp182_3 : ∀ id ver i j, fieldAddrD Tryz.prog 182 3 (.ptr id ver i j) = some (.ptr id ver i (j + 3)) := fun id ver i j => fd_of (ty := 3) (by kernel_rfl) sz3 (by decide) _
theorem fq182_3 : ∀ z xs i j, fieldAddrD Tryz.prog 182 3 (.fptr z xs i j) = some (.fptr z xs i (j + 3)) := fun z xs i j => fd_of (ty := 3) (by kernel_rfl) sz3 (by decide) _
theorem bu26 : ∀ ps, buildD Tryz.prog 26 ps = (bldD Tryz.prog 26 [.int .i64 0, .int .i64 0, .int .i64 0] ps).map .agg := buildD_eq ze26 (by kernel_rfl)
theorem bc26_0 : ∀ cs v ps, bldD Tryz.prog 26 cs ((0, v) :: ps) = if v.cells.length = 1 ∧ 0 + 1 ≤ cs.length ∧ v.cells.all D.one = true then bldD Tryz.prog 26 (cs.take 0 ++ v.cells ++ cs.drop (0 + 1)) ps else none := bld_cons (ty := 3) (by kernel_rfl) sz3
theorem bc26_1 : ∀ cs v ps, bldD Tryz.prog 26 cs ((1, v) :: ps) = if v.cells.length = 1 ∧ 1 + 1 ≤ cs.length ∧ v.cells.all D.one = true then bldD Tryz.prog 26 (cs.take 1 ++ v.cells ++ cs.drop (1 + 1)) ps else none := bld_cons (ty := 3) (by kernel_rfl) sz3
theorem bc26_2 : ∀ cs v ps, bldD Tryz.prog 26 cs ((2, v) :: ps) = if v.cells.length = 1 ∧ 2 + 1 ≤ cs.length ∧ v.cells.all D.one = true then bldD Tryz.prog 26 (cs.take 2 ++ v.cells ++ cs.drop (2 + 1)) ps else none := bld_cons (ty := 3) (by kernel_rfl) sz3
theorem bu32 : ∀ ps, buildD Tryz.prog 32 ps = (bldD Tryz.prog 32 [.snil, .snil, .int .i64 0] ps).map .agg := buildD_eq ze32 (by kernel_rfl)
theorem bc32_0 : ∀ cs v ps, bldD Tryz.prog 32 cs ((0, v) :: ps) = if v.cells.length = 1 ∧ 0 + 1 ≤ cs.length ∧ v.cells.all D.one = true then bldD Tryz.prog 32 (cs.take 0 ++ v.cells ++ cs.drop (0 + 1)) ps else none := bld_cons (ty := 29) (by kernel_rfl) sz29
theorem bc32_1 : ∀ cs v ps, bldD Tryz.prog 32 cs ((1, v) :: ps) = if v.cells.length = 1 ∧ 1 + 1 ≤ cs.length ∧ v.cells.all D.one = true then bldD Tryz.prog 32 (cs.take 1 ++ v.cells ++ cs.drop (1 + 1)) ps else none := bld_cons (ty := 30) (by kernel_rfl) sz30
theorem bc32_2 : ∀ cs v ps, bldD Tryz.prog 32 cs ((2, v) :: ps) = if v.cells.length = 1 ∧ 2 + 1 ≤ cs.length ∧ v.cells.all D.one = true then bldD Tryz.prog 32 (cs.take 2 ++ v.cells ++ cs.drop (2 + 1)) ps else none := bld_cons (ty := 3) (by kernel_rfl) sz3
theorem bu36 : ∀ ps, buildD Tryz.prog 36 ps = (bldD Tryz.prog 36 [.int .i64 0, .int .i64 0] ps).map .agg := buildD_eq ze36 (by kernel_rfl)
theorem bc36_0 : ∀ cs v ps, bldD Tryz.prog 36 cs ((0, v) :: ps) = if v.cells.length = 1 ∧ 0 + 1 ≤ cs.length ∧ v.cells.all D.one = true then bldD Tryz.prog 36 (cs.take 0 ++ v.cells ++ cs.drop (0 + 1)) ps else none := bld_cons (ty := 3) (by kernel_rfl) sz3
theorem bc36_1 : ∀ cs v ps, bldD Tryz.prog 36 cs ((1, v) :: ps) = if v.cells.length = 1 ∧ 1 + 1 ≤ cs.length ∧ v.cells.all D.one = true then bldD Tryz.prog 36 (cs.take 1 ++ v.cells ++ cs.drop (1 + 1)) ps else none := bld_cons (ty := 3) (by kernel_rfl) sz3
theorem bu38 : ∀ ps, buildD Tryz.prog 38 ps = (bldD Tryz.prog 38 [.int .i64 0, .int .i64 0] ps).map .agg := buildD_eq ze38 (by kernel_rfl)
theorem bc38_0 : ∀ cs v ps, bldD Tryz.prog 38 cs ((0, v) :: ps) = if v.cells.length = 1 ∧ 0 + 1 ≤ cs.length ∧ v.cells.all D.one = true then bldD Tryz.prog 38 (cs.take 0 ++ v.cells ++ cs.drop (0 + 1)) ps else none := bld_cons (ty := 3) (by kernel_rfl) sz3
theorem bc38_1 : ∀ cs v ps, bldD Tryz.prog 38 cs ((1, v) :: ps) = if v.cells.length = 1 ∧ 1 + 1 ≤ cs.length ∧ v.cells.all D.one = true then bldD Tryz.prog 38 (cs.take 1 ++ v.cells ++ cs.drop (1 + 1)) ps else none := bld_cons (ty := 3) (by kernel_rfl) sz3
theorem bu43 : ∀ ps, buildD Tryz.prog 43 ps = (bldD Tryz.prog 43 [.snil, .int .i64 0, .int .i64 0, .int .i64 0, .snil, .snil, .int .i64 0, .snil, .snil, .int .i64 0, .int .i64 0, .int .i64 0, .int .i64 0, .int .i64 0, .int .i64 0, .int .i64 0, .int .i64 0, .int .i64 0, .int .i64 0] ps).map .agg := buildD_eq ze43 (by kernel_rfl)
theorem bc43_0 : ∀ cs v ps, bldD Tryz.prog 43 cs ((0, v) :: ps) = if v.cells.length = 1 ∧ 0 + 1 ≤ cs.length ∧ v.cells.all D.one = true then bldD Tryz.prog 43 (cs.take 0 ++ v.cells ++ cs.drop (0 + 1)) ps else none := bld_cons (ty := 23) (by kernel_rfl) sz23
theorem bc43_1 : ∀ cs v ps, bldD Tryz.prog 43 cs ((1, v) :: ps) = if v.cells.length = 3 ∧ 1 + 3 ≤ cs.length ∧ v.cells.all D.one = true then bldD Tryz.prog 43 (cs.take 1 ++ v.cells ++ cs.drop (1 + 3)) ps else none := bld_cons (ty := 26) (by kernel_rfl) sz26
theorem bc43_2 : ∀ cs v ps, bldD Tryz.prog 43 cs ((2, v) :: ps) = if v.cells.length = 3 ∧ 4 + 3 ≤ cs.length ∧ v.cells.all D.one = true then bldD Tryz.prog 43 (cs.take 4 ++ v.cells ++ cs.drop (4 + 3)) ps else none := bld_cons (ty := 32) (by kernel_rfl) sz32
theorem bc43_3 : ∀ cs v ps, bldD Tryz.prog 43 cs ((3, v) :: ps) = if v.cells.length = 1 ∧ 7 + 1 ≤ cs.length ∧ v.cells.all D.one = true then bldD Tryz.prog 43 (cs.take 7 ++ v.cells ++ cs.drop (7 + 1)) ps else none := bld_cons (ty := 33) (by kernel_rfl) sz33
theorem bc43_4 : ∀ cs v ps, bldD Tryz.prog 43 cs ((4, v) :: ps) = if v.cells.length = 1 ∧ 8 + 1 ≤ cs.length ∧ v.cells.all D.one = true then bldD Tryz.prog 43 (cs.take 8 ++ v.cells ++ cs.drop (8 + 1)) ps else none := bld_cons (ty := 34) (by kernel_rfl) sz34
theorem bc43_5 : ∀ cs v ps, bldD Tryz.prog 43 cs ((5, v) :: ps) = if v.cells.length = 2 ∧ 9 + 2 ≤ cs.length ∧ v.cells.all D.one = true then bldD Tryz.prog 43 (cs.take 9 ++ v.cells ++ cs.drop (9 + 2)) ps else none := bld_cons (ty := 36) (by kernel_rfl) sz36
theorem bu54 : ∀ ps, buildD Tryz.prog 54 ps = (bldD Tryz.prog 54 [.snil, .int .i64 0, .int .i64 0, .int .i64 0] ps).map .agg := buildD_eq ze54 (by kernel_rfl)
theorem bc54_0 : ∀ cs v ps, bldD Tryz.prog 54 cs ((0, v) :: ps) = if v.cells.length = 1 ∧ 0 + 1 ≤ cs.length ∧ v.cells.all D.one = true then bldD Tryz.prog 54 (cs.take 0 ++ v.cells ++ cs.drop (0 + 1)) ps else none := bld_cons (ty := 34) (by kernel_rfl) sz34
theorem bc54_3 : ∀ cs v ps, bldD Tryz.prog 54 cs ((3, v) :: ps) = if v.cells.length = 1 ∧ 3 + 1 ≤ cs.length ∧ v.cells.all D.one = true then bldD Tryz.prog 54 (cs.take 3 ++ v.cells ++ cs.drop (3 + 1)) ps else none := bld_cons (ty := 3) (by kernel_rfl) sz3
theorem bu60 : ∀ ps, buildD Tryz.prog 60 ps = (bldD Tryz.prog 60 [.int .i64 0, .int .i64 0, .snil, .snil, .snil, .int .i64 0, .int .i64 0, .int .i64 0, .int .i64 0, .int .i64 0, .int .i64 0, .int .i64 0, .int .i64 0, .int .i64 0, .int .i64 0, .int .i64 0] ps).map .agg := buildD_eq ze60 (by kernel_rfl)
theorem bc60_0 : ∀ cs v ps, bldD Tryz.prog 60 cs ((0, v) :: ps) = if v.cells.length = 1 ∧ 0 + 1 ≤ cs.length ∧ v.cells.all D.one = true then bldD Tryz.prog 60 (cs.take 0 ++ v.cells ++ cs.drop (0 + 1)) ps else none := bld_cons (ty := 3) (by kernel_rfl) sz3
theorem bc60_3 : ∀ cs v ps, bldD Tryz.prog 60 cs ((3, v) :: ps) = if v.cells.length = 1 ∧ 3 + 1 ≤ cs.length ∧ v.cells.all D.one = true then bldD Tryz.prog 60 (cs.take 3 ++ v.cells ++ cs.drop (3 + 1)) ps else none := bld_cons (ty := 24) (by kernel_rfl) sz24
theorem bc60_4 : ∀ cs v ps, bldD Tryz.prog 60 cs ((4, v) :: ps) = if v.cells.length = 1 ∧ 4 + 1 ≤ cs.length ∧ v.cells.all D.one = true then bldD Tryz.prog 60 (cs.take 4 ++ v.cells ++ cs.drop (4 + 1)) ps else none := bld_cons (ty := 58) (by kernel_rfl) sz58
theorem bc60_5 : ∀ cs v ps, bldD Tryz.prog 60 cs ((5, v) :: ps) = if v.cells.length = 1 ∧ 5 + 1 ≤ cs.length ∧ v.cells.all D.one = true then bldD Tryz.prog 60 (cs.take 5 ++ v.cells ++ cs.drop (5 + 1)) ps else none := bld_cons (ty := 3) (by kernel_rfl) sz3
theorem bc60_11 : ∀ cs v ps, bldD Tryz.prog 60 cs ((11, v) :: ps) = if v.cells.length = 2 ∧ 13 + 2 ≤ cs.length ∧ v.cells.all D.one = true then bldD Tryz.prog 60 (cs.take 13 ++ v.cells ++ cs.drop (13 + 2)) ps else none := bld_cons (ty := 36) (by kernel_rfl) sz36
theorem bu73 : ∀ ps, buildD Tryz.prog 73 ps = (bldD Tryz.prog 73 [.int .i64 0, .bool false, .int .i64 0, .int .i64 0, .snil, .snil, .snil, .int .i64 0, .int .i64 0, .int .i64 0, .int .i64 0, .int .i64 0, .int .i64 0, .int .i64 0, .int .i64 0, .int .i64 0, .int .i64 0, .int .i64 0] ps).map .agg := buildD_eq ze73 (by kernel_rfl)
theorem bc73_0 : ∀ cs v ps, bldD Tryz.prog 73 cs ((0, v) :: ps) = if v.cells.length = 1 ∧ 0 + 1 ≤ cs.length ∧ v.cells.all D.one = true then bldD Tryz.prog 73 (cs.take 0 ++ v.cells ++ cs.drop (0 + 1)) ps else none := bld_cons (ty := 3) (by kernel_rfl) sz3
theorem bc73_1 : ∀ cs v ps, bldD Tryz.prog 73 cs ((1, v) :: ps) = if v.cells.length = 1 ∧ 1 + 1 ≤ cs.length ∧ v.cells.all D.one = true then bldD Tryz.prog 73 (cs.take 1 ++ v.cells ++ cs.drop (1 + 1)) ps else none := bld_cons (ty := 4) (by kernel_rfl) sz4
theorem bc73_2 : ∀ cs v ps, bldD Tryz.prog 73 cs ((2, v) :: ps) = if v.cells.length = 16 ∧ 2 + 16 ≤ cs.length ∧ v.cells.all D.one = true then bldD Tryz.prog 73 (cs.take 2 ++ v.cells ++ cs.drop (2 + 16)) ps else none := bld_cons (ty := 60) (by kernel_rfl) sz60
theorem bu77 : ∀ ps, buildD Tryz.prog 77 ps = (bldD Tryz.prog 77 [.int .i64 0, .int .i64 0, .int .i64 0, .snil] ps).map .agg := buildD_eq ze77 (by kernel_rfl)
theorem bc77_0 : ∀ cs v ps, bldD Tryz.prog 77 cs ((0, v) :: ps) = if v.cells.length = 1 ∧ 0 + 1 ≤ cs.length ∧ v.cells.all D.one = true then bldD Tryz.prog 77 (cs.take 0 ++ v.cells ++ cs.drop (0 + 1)) ps else none := bld_cons (ty := 3) (by kernel_rfl) sz3
theorem bc77_1 : ∀ cs v ps, bldD Tryz.prog 77 cs ((1, v) :: ps) = if v.cells.length = 1 ∧ 1 + 1 ≤ cs.length ∧ v.cells.all D.one = true then bldD Tryz.prog 77 (cs.take 1 ++ v.cells ++ cs.drop (1 + 1)) ps else none := bld_cons (ty := 3) (by kernel_rfl) sz3
theorem bc77_2 : ∀ cs v ps, bldD Tryz.prog 77 cs ((2, v) :: ps) = if v.cells.length = 1 ∧ 2 + 1 ≤ cs.length ∧ v.cells.all D.one = true then bldD Tryz.prog 77 (cs.take 2 ++ v.cells ++ cs.drop (2 + 1)) ps else none := bld_cons (ty := 3) (by kernel_rfl) sz3
theorem bu92 : ∀ ps, buildD Tryz.prog 92 ps = (bldD Tryz.prog 92 [.int .i64 0, .int .i64 0, .int .i64 0, .int .i64 0, .int .i64 0, .int .i64 0, .int .i64 0, .int .i64 0, .int .i64 0, .int .i64 0, .int .i64 0, .int .i64 0, .int .i64 0] ps).map .agg := buildD_eq ze92 (by kernel_rfl)
theorem bc92_0 : ∀ cs v ps, bldD Tryz.prog 92 cs ((0, v) :: ps) = if v.cells.length = 3 ∧ 0 + 3 ≤ cs.length ∧ v.cells.all D.one = true then bldD Tryz.prog 92 (cs.take 0 ++ v.cells ++ cs.drop (0 + 3)) ps else none := bld_cons (ty := 26) (by kernel_rfl) sz26
theorem bc92_1 : ∀ cs v ps, bldD Tryz.prog 92 cs ((1, v) :: ps) = if v.cells.length = 2 ∧ 3 + 2 ≤ cs.length ∧ v.cells.all D.one = true then bldD Tryz.prog 92 (cs.take 3 ++ v.cells ++ cs.drop (3 + 2)) ps else none := bld_cons (ty := 36) (by kernel_rfl) sz36
theorem bc92_2 : ∀ cs v ps, bldD Tryz.prog 92 cs ((2, v) :: ps) = if v.cells.length = 1 ∧ 5 + 1 ≤ cs.length ∧ v.cells.all D.one = true then bldD Tryz.prog 92 (cs.take 5 ++ v.cells ++ cs.drop (5 + 1)) ps else none := bld_cons (ty := 3) (by kernel_rfl) sz3
theorem bc92_3 : ∀ cs v ps, bldD Tryz.prog 92 cs ((3, v) :: ps) = if v.cells.length = 1 ∧ 6 + 1 ≤ cs.length ∧ v.cells.all D.one = true then bldD Tryz.prog 92 (cs.take 6 ++ v.cells ++ cs.drop (6 + 1)) ps else none := bld_cons (ty := 3) (by kernel_rfl) sz3
theorem bc92_4 : ∀ cs v ps, bldD Tryz.prog 92 cs ((4, v) :: ps) = if v.cells.length = 3 ∧ 7 + 3 ≤ cs.length ∧ v.cells.all D.one = true then bldD Tryz.prog 92 (cs.take 7 ++ v.cells ++ cs.drop (7 + 3)) ps else none := bld_cons (ty := 40) (by kernel_rfl) sz40
theorem bc92_5 : ∀ cs v ps, bldD Tryz.prog 92 cs ((5, v) :: ps) = if v.cells.length = 1 ∧ 10 + 1 ≤ cs.length ∧ v.cells.all D.one = true then bldD Tryz.prog 92 (cs.take 10 ++ v.cells ++ cs.drop (10 + 1)) ps else none := bld_cons (ty := 41) (by kernel_rfl) sz41
theorem bc92_6 : ∀ cs v ps, bldD Tryz.prog 92 cs ((6, v) :: ps) = if v.cells.length = 1 ∧ 11 + 1 ≤ cs.length ∧ v.cells.all D.one = true then bldD Tryz.prog 92 (cs.take 11 ++ v.cells ++ cs.drop (11 + 1)) ps else none := bld_cons (ty := 3) (by kernel_rfl) sz3
theorem bc92_7 : ∀ cs v ps, bldD Tryz.prog 92 cs ((7, v) :: ps) = if v.cells.length = 1 ∧ 12 + 1 ≤ cs.length ∧ v.cells.all D.one = true then bldD Tryz.prog 92 (cs.take 12 ++ v.cells ++ cs.drop (12 + 1)) ps else none := bld_cons (ty := 3) (by kernel_rfl) sz3
theorem bu98 : ∀ ps, buildD Tryz.prog 98 ps = (bldD Tryz.prog 98 [.int .i64 0, .int .i64 0, .int .i64 0, .int .i64 0, .int .i64 0, .int .i64 0] ps).map .agg := buildD_eq ze98 (by kernel_rfl)
theorem bu110 : ∀ ps, buildD Tryz.prog 110 ps = (bldD Tryz.prog 110 [.snil, .int .i64 0, .int .i64 0, .int .i64 0, .snil, .snil, .snil, .int .i64 0] ps).map .agg := buildD_eq ze110 (by kernel_rfl)
theorem bc110_0 : ∀ cs v ps, bldD Tryz.prog 110 cs ((0, v) :: ps) = if v.cells.length = 1 ∧ 0 + 1 ≤ cs.length ∧ v.cells.all D.one = true then bldD Tryz.prog 110 (cs.take 0 ++ v.cells ++ cs.drop (0 + 1)) ps else none := bld_cons (ty := 23) (by kernel_rfl) sz23
theorem bc110_1 : ∀ cs v ps, bldD Tryz.prog 110 cs ((1, v) :: ps) = if v.cells.length = 4 ∧ 1 + 4 ≤ cs.length ∧ v.cells.all D.one = true then bldD Tryz.prog 110 (cs.take 1 ++ v.cells ++ cs.drop (1 + 4)) ps else none := bld_cons (ty := 77) (by kernel_rfl) sz77
theorem bc110_2 : ∀ cs v ps, bldD Tryz.prog 110 cs ((2, v) :: ps) = if v.cells.length = 1 ∧ 5 + 1 ≤ cs.length ∧ v.cells.all D.one = true then bldD Tryz.prog 110 (cs.take 5 ++ v.cells ++ cs.drop (5 + 1)) ps else none := bld_cons (ty := 30) (by kernel_rfl) sz30
theorem bc110_3 : ∀ cs v ps, bldD Tryz.prog 110 cs ((3, v) :: ps) = if v.cells.length = 1 ∧ 6 + 1 ≤ cs.length ∧ v.cells.all D.one = true then bldD Tryz.prog 110 (cs.take 6 ++ v.cells ++ cs.drop (6 + 1)) ps else none := bld_cons (ty := 108) (by kernel_rfl) sz108
theorem bu115 : ∀ ps, buildD Tryz.prog 115 ps = (bldD Tryz.prog 115 [.int .i64 0, .int .i64 0, .int .i64 0] ps).map .agg := buildD_eq ze115 (by kernel_rfl)
theorem bc115_0 : ∀ cs v ps, bldD Tryz.prog 115 cs ((0, v) :: ps) = if v.cells.length = 1 ∧ 0 + 1 ≤ cs.length ∧ v.cells.all D.one = true then bldD Tryz.prog 115 (cs.take 0 ++ v.cells ++ cs.drop (0 + 1)) ps else none := bld_cons (ty := 3) (by kernel_rfl) sz3
theorem bc115_1 : ∀ cs v ps, bldD Tryz.prog 115 cs ((1, v) :: ps) = if v.cells.length = 1 ∧ 1 + 1 ≤ cs.length ∧ v.cells.all D.one = true then bldD Tryz.prog 115 (cs.take 1 ++ v.cells ++ cs.drop (1 + 1)) ps else none := bld_cons (ty := 3) (by kernel_rfl) sz3
theorem bc115_2 : ∀ cs v ps, bldD Tryz.prog 115 cs ((2, v) :: ps) = if v.cells.length = 1 ∧ 2 + 1 ≤ cs.length ∧ v.cells.all D.one = true then bldD Tryz.prog 115 (cs.take 2 ++ v.cells ++ cs.drop (2 + 1)) ps else none := bld_cons (ty := 3) (by kernel_rfl) sz3
theorem bu118 : ∀ ps, buildD Tryz.prog 118 ps = (bldD Tryz.prog 118 [.snil, .int .i64 0, .int .i64 0, .int .i64 0] ps).map .agg := buildD_eq ze118 (by kernel_rfl)
theorem bc118_0 : ∀ cs v ps, bldD Tryz.prog 118 cs ((0, v) :: ps) = if v.cells.length = 4 ∧ 0 + 4 ≤ cs.length ∧ v.cells.all D.one = true then bldD Tryz.prog 118 (cs.take 0 ++ v.cells ++ cs.drop (0 + 4)) ps else none := bld_cons (ty := 54) (by kernel_rfl) sz54
theorem bu153 : ∀ ps, buildD Tryz.prog 153 ps = (bldD Tryz.prog 153 [.int .i64 0, .int .i64 0] ps).map .agg := buildD_eq ze153 (by kernel_rfl)
theorem bc153_0 : ∀ cs v ps, bldD Tryz.prog 153 cs ((0, v) :: ps) = if v.cells.length = 1 ∧ 0 + 1 ≤ cs.length ∧ v.cells.all D.one = true then bldD Tryz.prog 153 (cs.take 0 ++ v.cells ++ cs.drop (0 + 1)) ps else none := bld_cons (ty := 3) (by kernel_rfl) sz3
theorem bc153_1 : ∀ cs v ps, bldD Tryz.prog 153 cs ((1, v) :: ps) = if v.cells.length = 1 ∧ 1 + 1 ≤ cs.length ∧ v.cells.all D.one = true then bldD Tryz.prog 153 (cs.take 1 ++ v.cells ++ cs.drop (1 + 1)) ps else none := bld_cons (ty := 3) (by kernel_rfl) sz3
theorem bu182 : ∀ ps, buildD Tryz.prog 182 ps = (bldD Tryz.prog 182 [.str ByteArray.empty, .int .i64 0, .int .i64 0, .int .i64 0] ps).map .agg := buildD_eq ze182 (by kernel_rfl)
theorem bc182_0 : ∀ cs v ps, bldD Tryz.prog 182 cs ((0, v) :: ps) = if v.cells.length = 1 ∧ 0 + 1 ≤ cs.length ∧ v.cells.all D.one = true then bldD Tryz.prog 182 (cs.take 0 ++ v.cells ++ cs.drop (0 + 1)) ps else none := bld_cons (ty := 9) (by kernel_rfl) sz9
theorem bc182_1 : ∀ cs v ps, bldD Tryz.prog 182 cs ((1, v) :: ps) = if v.cells.length = 1 ∧ 1 + 1 ≤ cs.length ∧ v.cells.all D.one = true then bldD Tryz.prog 182 (cs.take 1 ++ v.cells ++ cs.drop (1 + 1)) ps else none := bld_cons (ty := 3) (by kernel_rfl) sz3
theorem bc182_2 : ∀ cs v ps, bldD Tryz.prog 182 cs ((2, v) :: ps) = if v.cells.length = 1 ∧ 2 + 1 ≤ cs.length ∧ v.cells.all D.one = true then bldD Tryz.prog 182 (cs.take 2 ++ v.cells ++ cs.drop (2 + 1)) ps else none := bld_cons (ty := 3) (by kernel_rfl) sz3
theorem bc182_3 : ∀ cs v ps, bldD Tryz.prog 182 cs ((3, v) :: ps) = if v.cells.length = 1 ∧ 3 + 1 ≤ cs.length ∧ v.cells.all D.one = true then bldD Tryz.prog 182 (cs.take 3 ++ v.cells ++ cs.drop (3 + 1)) ps else none := bld_cons (ty := 3) (by kernel_rfl) sz3
theorem ft26 : flatT Tryz.prog 26 = some [1, 1, 1] := by kernel_rfl
theorem ft36 : flatT Tryz.prog 36 = some [1, 1] := by kernel_rfl
theorem ft38 : flatT Tryz.prog 38 = some [1, 1] := by kernel_rfl
theorem ft40 : flatT Tryz.prog 40 = some [1, 1, 1] := by kernel_rfl
theorem ft92 : flatT Tryz.prog 92 = some [1, 1, 1, 1, 1, 1, 1, 1, 1, 1, 1, 1, 1] := by kernel_rfl
theorem ft98 : flatT Tryz.prog 98 = some [1, 1, 1, 1, 1, 1] := by kernel_rfl
theorem ft115 : flatT Tryz.prog 115 = some [1, 1, 1] := by kernel_rfl
theorem dr3_12 : drawInfo Tryz.prog cfg (opsAt Tryz.f3 12) = some [] := by kernel_rfl
theorem dr3_14 : drawInfo Tryz.prog cfg (opsAt Tryz.f3 14) = some [] := by kernel_rfl
theorem dr4_13 : drawInfo Tryz.prog cfg (opsAt Tryz.f4 13) = some [] := by kernel_rfl
theorem dr4_16 : drawInfo Tryz.prog cfg (opsAt Tryz.f4 16) = some [] := by kernel_rfl
theorem dr5_9 : drawInfo Tryz.prog cfg (opsAt Tryz.f5 9) = some [] := by kernel_rfl
theorem dr5_12 : drawInfo Tryz.prog cfg (opsAt Tryz.f5 12) = some [] := by kernel_rfl
theorem dr5_16 : drawInfo Tryz.prog cfg (opsAt Tryz.f5 16) = some [] := by kernel_rfl
theorem dr5_20 : drawInfo Tryz.prog cfg (opsAt Tryz.f5 20) = some [] := by kernel_rfl
theorem dr5_28 : drawInfo Tryz.prog cfg (opsAt Tryz.f5 28) = some [] := by kernel_rfl
theorem dr5_30 : drawInfo Tryz.prog cfg (opsAt Tryz.f5 30) = some [] := by kernel_rfl
theorem dr6_3 : drawInfo Tryz.prog cfg (opsAt Tryz.f6 3) = some [(1, 8), (2, 8), (2, 9), (3, 8), (3, 9), (3, 10)] := by kernel_rfl
theorem dr7_13 : drawInfo Tryz.prog cfg (opsAt Tryz.f7 13) = some [] := by kernel_rfl
theorem dr10_10 : drawInfo Tryz.prog cfg (opsAt Tryz.f10 10) = some [] := by kernel_rfl
theorem dr15_6 : drawInfo Tryz.prog cfg (opsAt Tryz.f15 6) = some [] := by kernel_rfl
theorem dr17_6 : drawInfo Tryz.prog cfg (opsAt Tryz.f17 6) = some [] := by kernel_rfl
theorem dr18_5 : drawInfo Tryz.prog cfg (opsAt Tryz.f18 5) = some [] := by kernel_rfl
theorem dr19_5 : drawInfo Tryz.prog cfg (opsAt Tryz.f19 5) = some [] := by kernel_rfl
theorem dr20_1 : drawInfo Tryz.prog cfg (opsAt Tryz.f20 1) = some [] := by kernel_rfl
theorem dr27_6 : drawInfo Tryz.prog cfg (opsAt Tryz.f27 6) = some [] := by kernel_rfl
theorem dr32_9 : drawInfo Tryz.prog cfg (opsAt Tryz.f32 9) = some [] := by kernel_rfl
theorem dr33_8 : drawInfo Tryz.prog cfg (opsAt Tryz.f33 8) = some [] := by kernel_rfl
theorem dr36_9 : drawInfo Tryz.prog cfg (opsAt Tryz.f36 9) = some [] := by kernel_rfl
theorem dr36_12 : drawInfo Tryz.prog cfg (opsAt Tryz.f36 12) = some [(2, 5)] := by kernel_rfl
theorem dr36_13 : drawInfo Tryz.prog cfg (opsAt Tryz.f36 13) = some [(5, 7)] := by kernel_rfl
theorem dr38_8 : drawInfo Tryz.prog cfg (opsAt Tryz.f38 8) = some [] := by kernel_rfl
theorem dr38_9 : drawInfo Tryz.prog cfg (opsAt Tryz.f38 9) = some [(3, 9), (7, 9)] := by kernel_rfl
theorem dr38_13 : drawInfo Tryz.prog cfg (opsAt Tryz.f38 13) = some [(2, 6)] := by kernel_rfl
theorem dr42_6 : drawInfo Tryz.prog cfg (opsAt Tryz.f42 6) = some [(7, 10)] := by kernel_rfl
theorem dr42_12 : drawInfo Tryz.prog cfg (opsAt Tryz.f42 12) = some [] := by kernel_rfl
theorem dr43_6 : drawInfo Tryz.prog cfg (opsAt Tryz.f43 6) = some [(6, 12), (9, 12)] := by kernel_rfl
theorem dr50_6 : drawInfo Tryz.prog cfg (opsAt Tryz.f50 6) = some [] := by kernel_rfl
theorem dr56_1 : drawInfo Tryz.prog cfg (opsAt Tryz.f56 1) = some [] := by kernel_rfl
theorem dr57_6 : drawInfo Tryz.prog cfg (opsAt Tryz.f57 6) = some [] := by kernel_rfl
theorem dr61_2 : drawInfo Tryz.prog cfg (opsAt Tryz.f61 2) = some [(1, 6), (8, 6)] := by kernel_rfl
theorem dr62_1 : drawInfo Tryz.prog cfg (opsAt Tryz.f62 1) = some [] := by kernel_rfl
theorem dr65_1 : drawInfo Tryz.prog cfg (opsAt Tryz.f65 1) = some [] := by kernel_rfl
theorem dr69_1 : drawInfo Tryz.prog cfg (opsAt Tryz.f69 1) = some [(4, 2)] := by kernel_rfl
theorem dr72_6 : drawInfo Tryz.prog cfg (opsAt Tryz.f72 6) = some [] := by kernel_rfl
theorem dr74_5 : drawInfo Tryz.prog cfg (opsAt Tryz.f74 5) = some [] := by kernel_rfl
theorem dr77_6 : drawInfo Tryz.prog cfg (opsAt Tryz.f77 6) = some [] := by kernel_rfl
theorem dr78_6 : drawInfo Tryz.prog cfg (opsAt Tryz.f78 6) = some [] := by kernel_rfl
theorem dr82_6 : drawInfo Tryz.prog cfg (opsAt Tryz.f82 6) = some [] := by kernel_rfl
theorem dr84_6 : drawInfo Tryz.prog cfg (opsAt Tryz.f84 6) = some [] := by kernel_rfl
theorem dr87_12 : drawInfo Tryz.prog cfg (opsAt Tryz.f87 12) = some [] := by kernel_rfl
theorem dr87_16 : drawInfo Tryz.prog cfg (opsAt Tryz.f87 16) = some [] := by kernel_rfl
theorem dr93_9 : drawInfo Tryz.prog cfg (opsAt Tryz.f93 9) = some [] := by kernel_rfl
theorem dr94_11 : drawInfo Tryz.prog cfg (opsAt Tryz.f94 11) = some [] := by kernel_rfl
theorem dr94_15 : drawInfo Tryz.prog cfg (opsAt Tryz.f94 15) = some [] := by kernel_rfl
theorem dr103_6 : drawInfo Tryz.prog cfg (opsAt Tryz.f103 6) = some [] := by kernel_rfl
theorem dr104_6 : drawInfo Tryz.prog cfg (opsAt Tryz.f104 6) = some [] := by kernel_rfl
theorem dr108_11 : drawInfo Tryz.prog cfg (opsAt Tryz.f108 11) = some [] := by kernel_rfl
theorem dr108_18 : drawInfo Tryz.prog cfg (opsAt Tryz.f108 18) = some [] := by kernel_rfl
theorem dr112_4 : drawInfo Tryz.prog cfg (opsAt Tryz.f112 4) = some [(1, 2)] := by kernel_rfl
theorem dr112_12 : drawInfo Tryz.prog cfg (opsAt Tryz.f112 12) = some [(1, 2)] := by kernel_rfl
theorem dr116_3 : drawInfo Tryz.prog cfg (opsAt Tryz.f116 3) = some [] := by kernel_rfl
theorem dr128_2 : drawInfo Tryz.prog cfg (opsAt Tryz.f128 2) = some [] := by kernel_rfl
attribute [simp] ag3 sz3 by3 ze3 un3 ag4 sz4 by4 ze4 un4 ag5 sz5 by5 ze5 un5 ag9 sz9 by9 ze9 un9 ag23 sz23 by23 ze23 un23 el23 ag24 sz24 by24 ze24 un24 el24 ag26 sz26 by26 ze26 ag28 sz28 by28 ze28 ag29 sz29 by29 ze29 un29 el29 ag30 sz30 by30 ze30 un30 el30 ag32 sz32 by32 ze32 ag33 sz33 by33 ze33 un33 el33 ag34 sz34 by34 ze34 un34 el34 ag36 sz36 by36 ze36 ag38 sz38 by38 ze38 ag40 sz40 by40 ze40 ag41 sz41 by41 ze41 un41 ag43 sz43 by43 ze43 ag54 sz54 by54 ze54 ag58 sz58 by58 ze58 un58 el58 ag60 sz60 by60 ze60 ag73 sz73 by73 ze73 ag75 sz75 by75 ze75 un75 el75 ag77 sz77 by77 ze77 ag92 sz92 by92 ze92 ag98 sz98 by98 ze98 ag105 sz105 by105 ze105 ag108 sz108 by108 ze108 un108 el108 ag110 sz110 by110 ze110 ag115 sz115 by115 ze115 ag118 sz118 by118 ze118 ag130 sz130 by130 ze130 un130 el130 ag153 sz153 by153 ze153 ag156 sz156 by156 ze156 un156 ag169 sz169 by169 ze169 un169 ag172 sz172 by172 ze172 un172 ag180 sz180 by180 ze180 un180 el180 ag182 sz182 by182 ze182 ag195 sz195 by195 ze195 un195 fp26_0 fq26_0 fp26_1 fq26_1 fp26_2 fq26_2 fp28_0 fq28_0 fp28_1 fq28_1 fp28_2 fq28_2 fp28_3 fq28_3 fp28_4 fq28_4 fp32_0 fq32_0 fp32_1 fq32_1 fp32_2 fq32_2 fp36_0 fq36_0 fp36_1 fq36_1 fp38_0 fq38_0 fp38_1 fq38_1 fp43_0 fq43_0 fp43_1 fq43_1 fp43_2 fq43_2 fp43_3 fq43_3 fp43_4 fq43_4 fp43_5 fq43_5 fp43_6 fq43_6 fp43_7 fq43_7 fp43_8 fq43_8 fp43_9 fq43_9 fp43_10 fq43_10 fp43_11 fq43_11 fp54_0 fq54_0 fp54_1 fq54_1 fp54_2 fq54_2 fp54_3 fq54_3 fp60_0 fq60_0 fp60_1 fq60_1 fp60_2 fq60_2 fp60_3 fq60_3 fp60_4 fq60_4 fp60_5 fq60_5 fp60_6 fq60_6 fp60_7 fq60_7 fp60_8 fq60_8 fp60_9 fq60_9 fp60_10 fq60_10 fp60_11 fq60_11 fp60_12 fq60_12 fp73_0 fq73_0 fp73_1 fq73_1 fp73_2 fq73_2 fp77_0 fq77_0 fp77_1 fq77_1 fp77_2 fq77_2 fp77_3 fq77_3 fp110_0 fq110_0 fp110_1 fq110_1 fp110_2 fq110_2 fp110_3 fq110_3 fp110_4 fq110_4 fp115_0 fq115_0 fp115_1 fq115_1 fp115_2 fq115_2 fp118_0 fq118_0 fp153_0 fq153_0 fp153_1 fq153_1 fp182_2 fq182_2 fp182_3 fq182_3 bu26 bc26_0 bc26_1 bc26_2 bu32 bc32_0 bc32_1 bc32_2 bu36 bc36_0 bc36_1 bu38 bc38_0 bc38_1 bu43 bc43_0 bc43_1 bc43_2 bc43_3 bc43_4 bc43_5 bu54 bc54_0 bc54_3 bu60 bc60_0 bc60_3 bc60_4 bc60_5 bc60_11 bu73 bc73_0 bc73_1 bc73_2 bu77 bc77_0 bc77_1 bc77_2 bu92 bc92_0 bc92_1 bc92_2 bc92_3 bc92_4 bc92_5 bc92_6 bc92_7 bu98 bu110 bc110_0 bc110_1 bc110_2 bc110_3 bu115 bc115_0 bc115_1 bc115_2 bu118 bc118_0 bu153 bc153_0 bc153_1 bu182 bc182_0 bc182_1 bc182_2 bc182_3 ft26 ft36 ft38 ft40 ft92 ft98 ft115 sh3 sh4 sh5 sh6 sh7 sh8 sh9 sh10 sh11 sh12 sh13 sh14 sh15 sh16 sh17 sh18 sh19 sh20 sh21 sh22 sh23 sh24 sh25 sh26 sh27 sh28 sh29 sh30 sh31 sh32 sh33 sh34 sh35 sh36 sh37 sh38 sh39 sh40 sh41 sh42 sh43 sh44 sh45 sh46 sh47 sh48 sh49 sh50 sh51 sh52 sh53 sh54 sh55 sh56 sh57 sh58 sh59 sh60 sh61 sh62 sh63 sh64 sh65 sh66 sh67 sh68 sh69 sh70 sh71 sh72 sh73 sh74 sh75 sh76 sh77 sh78 sh79 sh80 sh81 sh82 sh83 sh84 sh85 sh86 sh87 sh88 sh89 sh90 sh91 sh92 sh93 sh94 sh95 sh96 sh97 sh98 sh99 sh100 sh101 sh102 sh103 sh104 sh105 sh106 sh107 sh108 sh109 sh110 sh111 sh112 sh113 sh114 sh115 sh116 sh117 sh118 sh119 sh120 sh121 sh122 sh123 sh124 sh125 sh126 sh127 sh128 sh129 sh131 sh132 sh133 sh134 sh144 sh145 sh146 sh147
attribute [local simp] fits_agg fits_one
theorem lit23_0 (dst ty pos af g st ps) : opD Tryz.prog cfg R ⟨dst, .buildSlice 23 0 ps, ty, pos, af, g⟩ st = (evps st.σ ps.toList).bind (litK 4 true [] st.h) := lit_eq dst ty pos af g st ps el23 sz77 ag77 ze77 rfl (by simp) (by decide) (by decide)
theorem litn23_0 (dst ty pos af g st ps) : opD Tryz.prog ⟨cfg.shared, cfg.ext, true, cfg.lit⟩ R ⟨dst, .buildSlice 23 0 ps, ty, pos, af, g⟩ st = (evps st.σ ps.toList).bind (litK 4 true [] st.h) := lit_eq dst ty pos af g st ps el23 sz77 ag77 ze77 rfl (by simp) (by decide) (by decide)
theorem lit24_1 (dst ty pos af g st ps) : opD Tryz.prog cfg R ⟨dst, .buildSlice 24 1 ps, ty, pos, af, g⟩ st = (evps st.σ ps.toList).bind (litK 2 true [(.agg [.int .i64 0, .int .i64 0])] st.h) := lit_eq dst ty pos af g st ps el24 sz38 ag38 ze38 rfl (by simp) (by decide) (by decide)
theorem litn24_1 (dst ty pos af g st ps) : opD Tryz.prog ⟨cfg.shared, cfg.ext, true, cfg.lit⟩ R ⟨dst, .buildSlice 24 1 ps, ty, pos, af, g⟩ st = (evps st.σ ps.toList).bind (litK 2 true [(.agg [.int .i64 0, .int .i64 0])] st.h) := lit_eq dst ty pos af g st ps el24 sz38 ag38 ze38 rfl (by simp) (by decide) (by decide)
theorem lit29_0 (dst ty pos af g st ps) : opD Tryz.prog cfg R ⟨dst, .buildSlice 29 0 ps, ty, pos, af, g⟩ st = (evps st.σ ps.toList).bind (litK 18 true [] st.h) := lit_eq dst ty pos af g st ps el29 sz73 ag73 ze73 rfl (by simp) (by decide) (by decide)
theorem litn29_0 (dst ty pos af g st ps) : opD Tryz.prog ⟨cfg.shared, cfg.ext, true, cfg.lit⟩ R ⟨dst, .buildSlice 29 0 ps, ty, pos, af, g⟩ st = (evps st.σ ps.toList).bind (litK 18 true [] st.h) := lit_eq dst ty pos af g st ps el29 sz73 ag73 ze73 rfl (by simp) (by decide) (by decide)
theorem lit29_1 (dst ty pos af g st ps) : opD Tryz.prog cfg R ⟨dst, .buildSlice 29 1 ps, ty, pos, af, g⟩ st = (evps st.σ ps.toList).bind (litK 18 true [(.agg [.int .i64 0, .bool false, .int .i64 0, .int .i64 0, .snil, .snil, .snil, .int .i64 0, .int .i64 0, .int .i64 0, .int .i64 0, .int .i64 0, .int .i64 0, .int .i64 0, .int .i64 0, .int .i64 0, .int .i64 0, .int .i64 0])] st.h) := lit_eq dst ty pos af g st ps el29 sz73 ag73 ze73 rfl (by simp) (by decide) (by decide)
theorem litn29_1 (dst ty pos af g st ps) : opD Tryz.prog ⟨cfg.shared, cfg.ext, true, cfg.lit⟩ R ⟨dst, .buildSlice 29 1 ps, ty, pos, af, g⟩ st = (evps st.σ ps.toList).bind (litK 18 true [(.agg [.int .i64 0, .bool false, .int .i64 0, .int .i64 0, .snil, .snil, .snil, .int .i64 0, .int .i64 0, .int .i64 0, .int .i64 0, .int .i64 0, .int .i64 0, .int .i64 0, .int .i64 0, .int .i64 0, .int .i64 0, .int .i64 0])] st.h) := lit_eq dst ty pos af g st ps el29 sz73 ag73 ze73 rfl (by simp) (by decide) (by decide)
theorem lit30_0 (dst ty pos af g st ps) : opD Tryz.prog cfg R ⟨dst, .buildSlice 30 0 ps, ty, pos, af, g⟩ st = (evps st.σ ps.toList).bind (litK 1 false [] st.h) := lit_eq dst ty pos af g st ps el30 sz3 ag3 ze3 rfl (by simp) (by decide) (by decide)
theorem litn30_0 (dst ty pos af g st ps) : opD Tryz.prog ⟨cfg.shared, cfg.ext, true, cfg.lit⟩ R ⟨dst, .buildSlice 30 0 ps, ty, pos, af, g⟩ st = (evps st.σ ps.toList).bind (litK 1 false [] st.h) := lit_eq dst ty pos af g st ps el30 sz3 ag3 ze3 rfl (by simp) (by decide) (by decide)
theorem lit30_1 (dst ty pos af g st ps) : opD Tryz.prog cfg R ⟨dst, .buildSlice 30 1 ps, ty, pos, af, g⟩ st = (evps st.σ ps.toList).bind (litK 1 false [(.int .i64 0)] st.h) := lit_eq dst ty pos af g st ps el30 sz3 ag3 ze3 rfl (by simp) (by decide) (by decide)
theorem litn30_1 (dst ty pos af g st ps) : opD Tryz.prog ⟨cfg.shared, cfg.ext, true, cfg.lit⟩ R ⟨dst, .buildSlice 30 1 ps, ty, pos, af, g⟩ st = (evps st.σ ps.toList).bind (litK 1 false [(.int .i64 0)] st.h) := lit_eq dst ty pos af g st ps el30 sz3 ag3 ze3 rfl (by simp) (by decide) (by decide)
theorem lit30_2 (dst ty pos af g st ps) : opD Tryz.prog cfg R ⟨dst, .buildSlice 30 2 ps, ty, pos, af, g⟩ st = (evps st.σ ps.toList).bind (litK 1 false [(.int .i64 0), (.int .i64 0)] st.h) := lit_eq dst ty pos af g st ps el30 sz3 ag3 ze3 rfl (by simp) (by decide) (by decide)
theorem litn30_2 (dst ty pos af g st ps) : opD Tryz.prog ⟨cfg.shared, cfg.ext, true, cfg.lit⟩ R ⟨dst, .buildSlice 30 2 ps, ty, pos, af, g⟩ st = (evps st.σ ps.toList).bind (litK 1 false [(.int .i64 0), (.int .i64 0)] st.h) := lit_eq dst ty pos af g st ps el30 sz3 ag3 ze3 rfl (by simp) (by decide) (by decide)
theorem lit33_0 (dst ty pos af g st ps) : opD Tryz.prog cfg R ⟨dst, .buildSlice 33 0 ps, ty, pos, af, g⟩ st = (evps st.σ ps.toList).bind (litK 4 true [] st.h) := lit_eq dst ty pos af g st ps el33 sz54 ag54 ze54 rfl (by simp) (by decide) (by decide)
theorem litn33_0 (dst ty pos af g st ps) : opD Tryz.prog ⟨cfg.shared, cfg.ext, true, cfg.lit⟩ R ⟨dst, .buildSlice 33 0 ps, ty, pos, af, g⟩ st = (evps st.σ ps.toList).bind (litK 4 true [] st.h) := lit_eq dst ty pos af g st ps el33 sz54 ag54 ze54 rfl (by simp) (by decide) (by decide)
theorem lit34_0 (dst ty pos af g st ps) : opD Tryz.prog cfg R ⟨dst, .buildSlice 34 0 ps, ty, pos, af, g⟩ st = (evps st.σ ps.toList).bind (litK 2 true [] st.h) := lit_eq dst ty pos af g st ps el34 sz36 ag36 ze36 rfl (by simp) (by decide) (by decide)
theorem litn34_0 (dst ty pos af g st ps) : opD Tryz.prog ⟨cfg.shared, cfg.ext, true, cfg.lit⟩ R ⟨dst, .buildSlice 34 0 ps, ty, pos, af, g⟩ st = (evps st.σ ps.toList).bind (litK 2 true [] st.h) := lit_eq dst ty pos af g st ps el34 sz36 ag36 ze36 rfl (by simp) (by decide) (by decide)
theorem lit34_1 (dst ty pos af g st ps) : opD Tryz.prog cfg R ⟨dst, .buildSlice 34 1 ps, ty, pos, af, g⟩ st = (evps st.σ ps.toList).bind (litK 2 true [(.agg [.int .i64 0, .int .i64 0])] st.h) := lit_eq dst ty pos af g st ps el34 sz36 ag36 ze36 rfl (by simp) (by decide) (by decide)
theorem litn34_1 (dst ty pos af g st ps) : opD Tryz.prog ⟨cfg.shared, cfg.ext, true, cfg.lit⟩ R ⟨dst, .buildSlice 34 1 ps, ty, pos, af, g⟩ st = (evps st.σ ps.toList).bind (litK 2 true [(.agg [.int .i64 0, .int .i64 0])] st.h) := lit_eq dst ty pos af g st ps el34 sz36 ag36 ze36 rfl (by simp) (by decide) (by decide)
theorem lit58_1 (dst ty pos af g st ps) : opD Tryz.prog cfg R ⟨dst, .buildSlice 58 1 ps, ty, pos, af, g⟩ st = (evps st.σ ps.toList).bind (litK 6 true [(.agg [.int .i64 0, .int .i64 0, .int .i64 0, .int .i64 0, .int .i64 0, .int .i64 0])] st.h) := lit_eq dst ty pos af g st ps el58 sz98 ag98 ze98 rfl (by simp) (by decide) (by decide)
theorem litn58_1 (dst ty pos af g st ps) : opD Tryz.prog ⟨cfg.shared, cfg.ext, true, cfg.lit⟩ R ⟨dst, .buildSlice 58 1 ps, ty, pos, af, g⟩ st = (evps st.σ ps.toList).bind (litK 6 true [(.agg [.int .i64 0, .int .i64 0, .int .i64 0, .int .i64 0, .int .i64 0, .int .i64 0])] st.h) := lit_eq dst ty pos af g st ps el58 sz98 ag98 ze98 rfl (by simp) (by decide) (by decide)
theorem lit75_1 (dst ty pos af g st ps) : opD Tryz.prog cfg R ⟨dst, .buildSlice 75 1 ps, ty, pos, af, g⟩ st = (evps st.σ ps.toList).bind (litK 3 true [(.agg [.int .i64 0, .int .i64 0, .int .i64 0])] st.h) := lit_eq dst ty pos af g st ps el75 sz115 ag115 ze115 rfl (by simp) (by decide) (by decide)
theorem litn75_1 (dst ty pos af g st ps) : opD Tryz.prog ⟨cfg.shared, cfg.ext, true, cfg.lit⟩ R ⟨dst, .buildSlice 75 1 ps, ty, pos, af, g⟩ st = (evps st.σ ps.toList).bind (litK 3 true [(.agg [.int .i64 0, .int .i64 0, .int .i64 0])] st.h) := lit_eq dst ty pos af g st ps el75 sz115 ag115 ze115 rfl (by simp) (by decide) (by decide)
theorem lit130_0 (dst ty pos af g st ps) : opD Tryz.prog cfg R ⟨dst, .buildSlice 130 0 ps, ty, pos, af, g⟩ st = (evps st.σ ps.toList).bind (litK 1 false [] st.h) := lit_eq dst ty pos af g st ps el130 sz9 ag9 ze9 rfl (by simp) (by decide) (by decide)
theorem litn130_0 (dst ty pos af g st ps) : opD Tryz.prog ⟨cfg.shared, cfg.ext, true, cfg.lit⟩ R ⟨dst, .buildSlice 130 0 ps, ty, pos, af, g⟩ st = (evps st.σ ps.toList).bind (litK 1 false [] st.h) := lit_eq dst ty pos af g st ps el130 sz9 ag9 ze9 rfl (by simp) (by decide) (by decide)
theorem lit130_1 (dst ty pos af g st ps) : opD Tryz.prog cfg R ⟨dst, .buildSlice 130 1 ps, ty, pos, af, g⟩ st = (evps st.σ ps.toList).bind (litK 1 false [(.str ByteArray.empty)] st.h) := lit_eq dst ty pos af g st ps el130 sz9 ag9 ze9 rfl (by simp) (by decide) (by decide)
theorem litn130_1 (dst ty pos af g st ps) : opD Tryz.prog ⟨cfg.shared, cfg.ext, true, cfg.lit⟩ R ⟨dst, .buildSlice 130 1 ps, ty, pos, af, g⟩ st = (evps st.σ ps.toList).bind (litK 1 false [(.str ByteArray.empty)] st.h) := lit_eq dst ty pos af g st ps el130 sz9 ag9 ze9 rfl (by simp) (by decide) (by decide)
theorem lit130_17 (dst ty pos af g st ps) : opD Tryz.prog cfg R ⟨dst, .buildSlice 130 17 ps, ty, pos, af, g⟩ st = (evps st.σ ps.toList).bind (litK 1 false [(.str ByteArray.empty), (.str ByteArray.empty), (.str ByteArray.empty), (.str ByteArray.empty), (.str ByteArray.empty), (.str ByteArray.empty), (.str ByteArray.empty), (.str ByteArray.empty), (.str ByteArray.empty), (.str ByteArray.empty), (.str ByteArray.empty), (.str ByteArray.empty), (.str ByteArray.empty), (.str ByteArray.empty), (.str ByteArray.empty), (.str ByteArray.empty), (.str ByteArray.empty)] st.h) := lit_eq dst ty pos af g st ps el130 sz9 ag9 ze9 rfl (by simp) (by decide) (by decide)
theorem litn130_17 (dst ty pos af g st ps) : opD Tryz.prog ⟨cfg.shared, cfg.ext, true, cfg.lit⟩ R ⟨dst, .buildSlice 130 17 ps, ty, pos, af, g⟩ st = (evps st.σ ps.toList).bind (litK 1 false [(.str ByteArray.empty), (.str ByteArray.empty), (.str ByteArray.empty), (.str ByteArray.empty), (.str ByteArray.empty), (.str ByteArray.empty), (.str ByteArray.empty), (.str ByteArray.empty), (.str ByteArray.empty), (.str ByteArray.empty), (.str ByteArray.empty), (.str ByteArray.empty), (.str ByteArray.empty), (.str ByteArray.empty), (.str ByteArray.empty), (.str ByteArray.empty), (.str ByteArray.empty)] st.h) := lit_eq dst ty pos af g st ps el130 sz9 ag9 ze9 rfl (by simp) (by decide) (by decide)
theorem lit180_1 (dst ty pos af g st ps) : opD Tryz.prog cfg R ⟨dst, .buildSlice 180 1 ps, ty, pos, af, g⟩ st = (evps st.σ ps.toList).bind (litK 1 false [(.int .u8 0)] st.h) := lit_eq dst ty pos af g st ps el180 sz5 ag5 ze5 rfl (by simp) (by decide) (by decide)
theorem litn180_1 (dst ty pos af g st ps) : opD Tryz.prog ⟨cfg.shared, cfg.ext, true, cfg.lit⟩ R ⟨dst, .buildSlice 180 1 ps, ty, pos, af, g⟩ st = (evps st.σ ps.toList).bind (litK 1 false [(.int .u8 0)] st.h) := lit_eq dst ty pos af g st ps el180 sz5 ag5 ze5 rfl (by simp) (by decide) (by decide)
theorem le9 (h ty) (s : ByteArray) : builtinD Tryz.prog h .len #[9] ty [.str s] = some (.int .i64 s.size, h) := by simp [builtinD, un9]
theorem le23 (h ty) (x : D) : builtinD Tryz.prog h .len #[23] ty [x] = (lenS x).map fun (n : Nat) => (D.int .i64 (n : Int), h) := bu_len (t := 23) rfl un23
theorem ap23 (h ty s x) : builtinD Tryz.prog h .append #[23, 23] ty [s, x] = (elsZ h 4 s).bind fun old => (elsZ h 4 x).bind (apK 48 4 h s old) := app_eq rfl rfl el23 un23 sz77 sz77 by77 ag77 (by simp [zeroOk]) (by decide) (by decide) h ty s x
theorem cp23 (h ty d s) : builtinD Tryz.prog h .copy #[23, 23] ty [d, s] = (lenS d).bind fun dl => (elsZ h 4 s).bind fun xs => cpN 4 h d (Nat.min xs.length dl) xs := copy_eq rfl el23 sz77 h ty d s
theorem ixs23 (xs tg i) : indexAddrD Tryz.prog 23 (.sl 4 xs tg) i = (idxD xs.length i).map fun i => .fptr 4 xs i 0 := ixsl_eq un23 sz77 xs tg i
theorem ixo23 (id ver off len i) : indexAddrD Tryz.prog 23 (.own 4 id ver off len) i = (idxD len i).map fun i => .ptr id ver (off + i) 0 := ixown_eq un23 sz77 id ver off len i
theorem le24 (h ty) (x : D) : builtinD Tryz.prog h .len #[24] ty [x] = (lenS x).map fun (n : Nat) => (D.int .i64 (n : Int), h) := bu_len (t := 24) rfl un24
theorem ap24 (h ty s x) : builtinD Tryz.prog h .append #[24, 24] ty [s, x] = (elsZ h 2 s).bind fun old => (elsZ h 2 x).bind (apK 16 2 h s old) := app_eq rfl rfl el24 un24 sz38 sz38 by38 ag38 (by simp [zeroOk]) (by decide) (by decide) h ty s x
theorem cp24 (h ty d s) : builtinD Tryz.prog h .copy #[24, 24] ty [d, s] = (lenS d).bind fun dl => (elsZ h 2 s).bind fun xs => cpN 2 h d (Nat.min xs.length dl) xs := copy_eq rfl el24 sz38 h ty d s
theorem ixs24 (xs tg i) : indexAddrD Tryz.prog 24 (.sl 2 xs tg) i = (idxD xs.length i).map fun i => .fptr 2 xs i 0 := ixsl_eq un24 sz38 xs tg i
theorem ixo24 (id ver off len i) : indexAddrD Tryz.prog 24 (.own 2 id ver off len) i = (idxD len i).map fun i => .ptr id ver (off + i) 0 := ixown_eq un24 sz38 id ver off len i
theorem le29 (h ty) (x : D) : builtinD Tryz.prog h .len #[29] ty [x] = (lenS x).map fun (n : Nat) => (D.int .i64 (n : Int), h) := bu_len (t := 29) rfl un29
theorem ap29 (h ty s x) : builtinD Tryz.prog h .append #[29, 29] ty [s, x] = (elsZ h 18 s).bind fun old => (elsZ h 18 x).bind (apK 192 18 h s old) := app_eq rfl rfl el29 un29 sz73 sz73 by73 ag73 (by simp [zeroOk]) (by decide) (by decide) h ty s x
theorem cp29 (h ty d s) : builtinD Tryz.prog h .copy #[29, 29] ty [d, s] = (lenS d).bind fun dl => (elsZ h 18 s).bind fun xs => cpN 18 h d (Nat.min xs.length dl) xs := copy_eq rfl el29 sz73 h ty d s
theorem ixs29 (xs tg i) : indexAddrD Tryz.prog 29 (.sl 18 xs tg) i = (idxD xs.length i).map fun i => .fptr 18 xs i 0 := ixsl_eq un29 sz73 xs tg i
theorem ixo29 (id ver off len i) : indexAddrD Tryz.prog 29 (.own 18 id ver off len) i = (idxD len i).map fun i => .ptr id ver (off + i) 0 := ixown_eq un29 sz73 id ver off len i
theorem le30 (h ty) (x : D) : builtinD Tryz.prog h .len #[30] ty [x] = (lenS x).map fun (n : Nat) => (D.int .i64 (n : Int), h) := bu_len (t := 30) rfl un30
theorem ap30 (h ty s x) : builtinD Tryz.prog h .append #[30, 30] ty [s, x] = (elsZ h 1 s).bind fun old => (elsZ h 1 x).bind (apK 8 1 h s old) := app_eq rfl rfl el30 un30 sz3 sz3 by3 ag3 (by simp [zeroOk]) (by decide) (by decide) h ty s x
theorem cp30 (h ty d s) : builtinD Tryz.prog h .copy #[30, 30] ty [d, s] = (lenS d).bind fun dl => (elsZ h 1 s).bind fun xs => cpN 1 h d (Nat.min xs.length dl) xs := copy_eq rfl el30 sz3 h ty d s
theorem ixs30 (xs tg i) : indexAddrD Tryz.prog 30 (.sl 1 xs tg) i = (idxD xs.length i).map fun i => .fptr 1 xs i 0 := ixsl_eq un30 sz3 xs tg i
theorem ixo30 (id ver off len i) : indexAddrD Tryz.prog 30 (.own 1 id ver off len) i = (idxD len i).map fun i => .ptr id ver (off + i) 0 := ixown_eq un30 sz3 id ver off len i
theorem le33 (h ty) (x : D) : builtinD Tryz.prog h .len #[33] ty [x] = (lenS x).map fun (n : Nat) => (D.int .i64 (n : Int), h) := bu_len (t := 33) rfl un33
theorem ap33 (h ty s x) : builtinD Tryz.prog h .append #[33, 33] ty [s, x] = (elsZ h 4 s).bind fun old => (elsZ h 4 x).bind (apK 48 4 h s old) := app_eq rfl rfl el33 un33 sz54 sz54 by54 ag54 (by simp [zeroOk]) (by decide) (by decide) h ty s x
theorem cp33 (h ty d s) : builtinD Tryz.prog h .copy #[33, 33] ty [d, s] = (lenS d).bind fun dl => (elsZ h 4 s).bind fun xs => cpN 4 h d (Nat.min xs.length dl) xs := copy_eq rfl el33 sz54 h ty d s
theorem ixs33 (xs tg i) : indexAddrD Tryz.prog 33 (.sl 4 xs tg) i = (idxD xs.length i).map fun i => .fptr 4 xs i 0 := ixsl_eq un33 sz54 xs tg i
theorem ixo33 (id ver off len i) : indexAddrD Tryz.prog 33 (.own 4 id ver off len) i = (idxD len i).map fun i => .ptr id ver (off + i) 0 := ixown_eq un33 sz54 id ver off len i
theorem le34 (h ty) (x : D) : builtinD Tryz.prog h .len #[34] ty [x] = (lenS x).map fun (n : Nat) => (D.int .i64 (n : Int), h) := bu_len (t := 34) rfl un34
theorem ap34 (h ty s x) : builtinD Tryz.prog h .append #[34, 34] ty [s, x] = (elsZ h 2 s).bind fun old => (elsZ h 2 x).bind (apK 16 2 h s old) := app_eq rfl rfl el34 un34 sz36 sz36 by36 ag36 (by simp [zeroOk]) (by decide) (by decide) h ty s x
theorem cp34 (h ty d s) : builtinD Tryz.prog h .copy #[34, 34] ty [d, s] = (lenS d).bind fun dl => (elsZ h 2 s).bind fun xs => cpN 2 h d (Nat.min xs.length dl) xs := copy_eq rfl el34 sz36 h ty d s
theorem ixs34 (xs tg i) : indexAddrD Tryz.prog 34 (.sl 2 xs tg) i = (idxD xs.length i).map fun i => .fptr 2 xs i 0 := ixsl_eq un34 sz36 xs tg i
theorem ixo34 (id ver off len i) : indexAddrD Tryz.prog 34 (.own 2 id ver off len) i = (idxD len i).map fun i => .ptr id ver (off + i) 0 := ixown_eq un34 sz36 id ver off len i
theorem le58 (h ty) (x : D) : builtinD Tryz.prog h .len #[58] ty [x] = (lenS x).map fun (n : Nat) => (D.int .i64 (n : Int), h) := bu_len (t := 58) rfl un58
theorem ap58 (h ty s x) : builtinD Tryz.prog h .append #[58, 58] ty [s, x] = (elsZ h 6 s).bind fun old => (elsZ h 6 x).bind (apK 48 6 h s old) := app_eq rfl rfl el58 un58 sz98 sz98 by98 ag98 (by simp [zeroOk]) (by decide) (by decide) h ty s x
theorem cp58 (h ty d s) : builtinD Tryz.prog h .copy #[58, 58] ty [d, s] = (lenS d).bind fun dl => (elsZ h 6 s).bind fun xs => cpN 6 h d (Nat.min xs.length dl) xs := copy_eq rfl el58 sz98 h ty d s
theorem ixs58 (xs tg i) : indexAddrD Tryz.prog 58 (.sl 6 xs tg) i = (idxD xs.length i).map fun i => .fptr 6 xs i 0 := ixsl_eq un58 sz98 xs tg i
theorem ixo58 (id ver off len i) : indexAddrD Tryz.prog 58 (.own 6 id ver off len) i = (idxD len i).map fun i => .ptr id ver (off + i) 0 := ixown_eq un58 sz98 id ver off len i
theorem le75 (h ty) (x : D) : builtinD Tryz.prog h .len #[75] ty [x] = (lenS x).map fun (n : Nat) => (D.int .i64 (n : Int), h) := bu_len (t := 75) rfl un75
theorem ap75 (h ty s x) : builtinD Tryz.prog h .append #[75, 75] ty [s, x] = (elsZ h 3 s).bind fun old => (elsZ h 3 x).bind (apK 24 3 h s old) := app_eq rfl rfl el75 un75 sz115 sz115 by115 ag115 (by simp [zeroOk]) (by decide) (by decide) h ty s x
theorem cp75 (h ty d s) : builtinD Tryz.prog h .copy #[75, 75] ty [d, s] = (lenS d).bind fun dl => (elsZ h 3 s).bind fun xs => cpN 3 h d (Nat.min xs.length dl) xs := copy_eq rfl el75 sz115 h ty d s
theorem ixs75 (xs tg i) : indexAddrD Tryz.prog 75 (.sl 3 xs tg) i = (idxD xs.length i).map fun i => .fptr 3 xs i 0 := ixsl_eq un75 sz115 xs tg i
theorem ixo75 (id ver off len i) : indexAddrD Tryz.prog 75 (.own 3 id ver off len) i = (idxD len i).map fun i => .ptr id ver (off + i) 0 := ixown_eq un75 sz115 id ver off len i
theorem le108 (h ty) (x : D) : builtinD Tryz.prog h .len #[108] ty [x] = (lenS x).map fun (n : Nat) => (D.int .i64 (n : Int), h) := bu_len (t := 108) rfl un108
theorem ap108 (h ty s x) : builtinD Tryz.prog h .append #[108, 108] ty [s, x] = (elsZ h 1 s).bind fun old => (elsZ h 1 x).bind (apK 1 1 h s old) := app_eq rfl rfl el108 un108 sz4 sz4 by4 ag4 (by simp [zeroOk]) (by decide) (by decide) h ty s x
theorem cp108 (h ty d s) : builtinD Tryz.prog h .copy #[108, 108] ty [d, s] = (lenS d).bind fun dl => (elsZ h 1 s).bind fun xs => cpN 1 h d (Nat.min xs.length dl) xs := copy_eq rfl el108 sz4 h ty d s
theorem ixs108 (xs tg i) : indexAddrD Tryz.prog 108 (.sl 1 xs tg) i = (idxD xs.length i).map fun i => .fptr 1 xs i 0 := ixsl_eq un108 sz4 xs tg i
theorem ixo108 (id ver off len i) : indexAddrD Tryz.prog 108 (.own 1 id ver off len) i = (idxD len i).map fun i => .ptr id ver (off + i) 0 := ixown_eq un108 sz4 id ver off len i
theorem le130 (h ty) (x : D) : builtinD Tryz.prog h .len #[130] ty [x] = (lenS x).map fun (n : Nat) => (D.int .i64 (n : Int), h) := bu_len (t := 130) rfl un130
theorem ap130 (h ty s x) : builtinD Tryz.prog h .append #[130, 130] ty [s, x] = (elsZ h 1 s).bind fun old => (elsZ h 1 x).bind (apK 16 1 h s old) := app_eq rfl rfl el130 un130 sz9 sz9 by9 ag9 (by simp [zeroOk]) (by decide) (by decide) h ty s x
theorem cp130 (h ty d s) : builtinD Tryz.prog h .copy #[130, 130] ty [d, s] = (lenS d).bind fun dl => (elsZ h 1 s).bind fun xs => cpN 1 h d (Nat.min xs.length dl) xs := copy_eq rfl el130 sz9 h ty d s
theorem ixs130 (xs tg i) : indexAddrD Tryz.prog 130 (.sl 1 xs tg) i = (idxD xs.length i).map fun i => .fptr 1 xs i 0 := ixsl_eq un130 sz9 xs tg i
theorem ixo130 (id ver off len i) : indexAddrD Tryz.prog 130 (.own 1 id ver off len) i = (idxD len i).map fun i => .ptr id ver (off + i) 0 := ixown_eq un130 sz9 id ver off len i
theorem le180 (h ty) (x : D) : builtinD Tryz.prog h .len #[180] ty [x] = (lenS x).map fun (n : Nat) => (D.int .i64 (n : Int), h) := bu_len (t := 180) rfl un180
theorem ap180 (h ty s x) : builtinD Tryz.prog h .append #[180, 180] ty [s, x] = (elsZ h 1 s).bind fun old => (elsZ h 1 x).bind (apK 1 1 h s old) := app_eq rfl rfl el180 un180 sz5 sz5 by5 ag5 (by simp [zeroOk]) (by decide) (by decide) h ty s x
theorem cp180 (h ty d s) : builtinD Tryz.prog h .copy #[180, 180] ty [d, s] = (lenS d).bind fun dl => (elsZ h 1 s).bind fun xs => cpN 1 h d (Nat.min xs.length dl) xs := copy_eq rfl el180 sz5 h ty d s
theorem ixs180 (xs tg i) : indexAddrD Tryz.prog 180 (.sl 1 xs tg) i = (idxD xs.length i).map fun i => .fptr 1 xs i 0 := ixsl_eq un180 sz5 xs tg i
theorem ixo180 (id ver off len i) : indexAddrD Tryz.prog 180 (.own 1 id ver off len) i = (idxD len i).map fun i => .ptr id ver (off + i) 0 := ixown_eq un180 sz5 id ver off len i
theorem le195 (h ty) (x : D) : builtinD Tryz.prog h .len #[195] ty [x] = some (.int .i64 17, h) := by simp [builtinD, un195]
attribute [simp] lit23_0 litn23_0 lit24_1 litn24_1 lit29_0 litn29_0 lit29_1 litn29_1 lit30_0 litn30_0 lit30_1 litn30_1 lit30_2 litn30_2 lit33_0 litn33_0 lit34_0 litn34_0 lit34_1 litn34_1 lit58_1 litn58_1 lit75_1 litn75_1 lit130_0 litn130_0 lit130_1 litn130_1 lit130_17 litn130_17 lit180_1 litn180_1 le9 le23 ap23 cp23 ixs23 ixo23 le24 ap24 cp24 ixs24 ixo24 le29 ap29 cp29 ixs29 ixo29 le30 ap30 cp30 ixs30 ixo30 le33 ap33 cp33 ixs33 ixo33 le34 ap34 cp34 ixs34 ixo34 le58 ap58 cp58 ixs58 ixo58 le75 ap75 cp75 ixs75 ixo75 le108 ap108 cp108 ixs108 ixo108 le130 ap130 cp130 ixs130 ixo130 le180 ap180 cp180 ixs180 ixo180 le195
end Go.Proofs.YtifmjomfoilnnaaGreatW.Vm
