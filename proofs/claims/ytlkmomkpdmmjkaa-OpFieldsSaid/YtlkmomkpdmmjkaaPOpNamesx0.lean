-- Written by a program of this session (a changed copy of the kit's print).
import Derived.Test.YtlkmomkpdmmjkaaProg
import Derived.Below
import Derived.Deep.Draws
import Derived.Deep.AppendLies
import Derived.Maps.AppendAt
import Derived.OwnWalk
import Derived.Laws.BytesArg
import Derived.Laws.MakeOwn
import Derived.Laws.OwnMore
import Derived.Deep.OwnRows
import Derived.Tactics
import Derived.Lib.ConvBytes
import Derived.Laws.Slices
import Derived.WalkKit
import Derived.KernelRfl
import Derived.RowKit3
import Derived.Deep.LoopGhost
import Derived.Deep.QuietTactic
import Derived.BigQuiet
import Derived.WideLaws
import Derived.Deep.DeepCutAuto
import Derived.Deep.CutBlock
import Derived.Deep.RegionHeld3
import Derived.Laws.Rows
import Derived.Lib.AppendStr
import Derived.ArgAppend
import Derived.Laws.IdiomCopy
import Derived.OrdersHeld
import Derived.Laws.BitsLemmas
import Derived.RowKit
import Derived.Deep.WholeRow
import Derived.Laws.CopyOwn
import Derived.Laws.Cells
import Derived.Laws.ComplexArith
import Derived.Deep.DeepMust
import Derived.Deep.MidRow
import Derived.Test.YtlkmomkpdmmjkaaWWords
import Derived.Test.YtlkmomkpdmmjkaaWLast
import Derived.Test.YtlkmomkpdmmjkaaWTab
import Derived.Test.YtlkmomkpdmmjkaaWFour
import Derived.Test.YtlkmomkpdmmjkaaWQPut
import Derived.Test.YtlkmomkpdmmjkaaWApart
import Derived.Test.YtlkmomkpdmmjkaaWArr
import Derived.Test.YtlkmomkpdmmjkaaWZeros
import Derived.Test.YtlkmomkpdmmjkaaWFoot
import Derived.Test.YtlkmomkpdmmjkaaWKept
import Derived.Test.YtlkmomkpdmmjkaaWShare
import Derived.Test.YtlkmomkpdmmjkaaWN
import Derived.Test.YtlkmomkpdmmjkaaWFootNe
import Derived.Test.YtlkmomkpdmmjkaaWAt
import Derived.Test.YtlkmomkpdmmjkaaWEqStruct
import Derived.Test.YtlkmomkpdmmjkaaWRepsOne
import Derived.Test.YtlkmomkpdmmjkaaWInv
import Derived.Test.YtlkmomkpdmmjkaaWInvWords
import Derived.Test.YtlkmomkpdmmjkaaWGuard
import Derived.Test.YtlkmomkpdmmjkaaWNEv
import Derived.Test.YtlkmomkpdmmjkaaWMore
namespace Go.Proofs.Ytlkmomkpdmmjkaa.POpNames
open Go.RowKit Go.Proofs.YtlkmomkpdmmjkaaW.PrintWords Go.Proofs.YtlkmomkpdmmjkaaW.PrintLast Go.Proofs.YtlkmomkpdmmjkaaW.PrintMore
attribute [local go_sem] max2_int min2_int max_two min_two max_three min_three max_four min_four   -- for this text's walks alone
set_option linter.unusedVariables false
set_option linter.unusedSimpArgs false



def errW : Option Int → Value
  | none => .nilIface
  | some c => .iface 0 (.int .i64 c)
theorem errW_none : errW none = .nilIface := rfl
theorem errW_some (c : Int) : errW (some c) = .iface 0 (.int .i64 c) := rfl

-- the values' own types

/-! ### lemmas that the hand-written contracts lean on -/
theorem wpList_built {P : Program} {ops : Array Oper} {rest : List Oper} {o : Oper} {a : Act} {w : World} {Q : Exit → Act → World → Prop} (hg : o.guard = none) (t : TypeId) (parts : Array (Nat × Operand)) (ho : o.op = .build t parts) (r : Array Value)
    (hf : P.built t (parts.map fun (i, x) => (i, a.eval x)).toList = some r)
    (h : wpList P ops Q rest (a.put o.dst (.agg r)) w) : wpList P ops Q (o :: rest) a w :=
  wpList_build hg t parts ho (by rw [hf]; rfl) (by rw [hf]; exact h)
theorem gate_store {P : Program} {ops : Array Oper} {rest : List Oper} {o : Oper} {a : Act} {W : World} {Q : Exit → Act → World → Prop} {t : TypeId} {x y : Operand} (_ho : o.op = .store t x y) (h : wpList P ops Q (o :: rest) a W) : wpList P ops Q (o :: rest) a W := h
theorem store_new {P : Program} {ops : Array Oper} {rest : List Oper} {o : Oper} {a : Act} {Q : Exit → Act → World → Prop} {W : World} (ty : TypeId) (x y : Operand) (Z C : Array Value) (ho : o.op = .store ty x y) (hgd : o.guard = none)
    (hx : a.eval x = .pointer (some ⟨W.heap.size, 0, none⟩)) (hy : a.eval y = .agg C) (hi : (P.info? ty).map (·.size) = some C.size) (hold : Z.size = C.size) (h1 : C.all (·.oneCell') = true)
    (h : wpList P ops Q rest (a.put o.dst undef) (W.alloc (.cells C ty))) : wpList P ops Q (o :: rest) a (W.alloc (.cells Z ty)) := by
  refine wpList_store_row hgd ty x y ho W.heap.size C hx hy ty Z (heap_alloc_new _ _) hi hold h1 ?_
  rw [World.setRow_alloc_new]
  exact h
theorem load_list (P : Program) (W : World) (a : Addr) (cs : List Value) (k : Nat) (hk : cs.length = k) (h : ∀ j v, cs[j]? = some v → W.cell? (a.add j) = some v) :
    Sem.run P (loadCellsFrom a 0 k #[]) W = .ok cs.toArray W := by
  have := run_loadCells_list (P := P) (w := W) a cs h
  rw [hk] at this
  simpa [loadCells] using this

end Go.Proofs.Ytlkmomkpdmmjkaa.POpNames
