/-
  No cell of these rows narrows 'for every input' (looked for: loops, veiled, ifaces, maps, wideKeys, modest, calm, conditions, laid).
  DERIVED. THE GIVEN ROWS OF THIS SEAT. 10 by the template 'for every input the law returns true; each argument reads behind the call as it read before'; 0 by the template 'total and deterministic' (their statements: YtlkmomkpdmmjkaaTotals.lean).
  GIVEN WITH THE SEED: the statements are not yours to turn. If you find one false, say at which input.
  Laid BY PROGRAM, IN A SANDBOX (cutbox-rows.mjs): the forced cells as the released guide's own fill.sh prints them over the translation a589e27774a0ffab… (all of the seat's roots in one cut). By AI agents, Wed Nov 11 2026. No macro, syntax, notation, axiom, sorry.
-/
import Derived.Test.YtlkmomkpdmmjkaaChecked
import GoSem.Claim
import GoSem.ClaimJoined
import GoSem.ClaimMapViews
import Derived.JoinedTies
import Derived.KernelRfl
namespace Go.Proofs.Ytlkmomkpdmmjkaa
/- THE CELL 'sum', in the pinned program and in every row, IS THE sha256 OF THE DUMP (.gsa) THAT YtlkmomkpdmmjkaaProg.lean LOADS. Nothing in Lean hashes anything: it is a label: what it is worth is what the hold of that sum in a sandbox is worth. -/
noncomputable def Try.pinned : Pinned := { name := "ytlkmomkpdmmjkaa", sum := "a589e27774a0ffabc3a795c8f36af1373a2a5229417e6fe279b71f439b30e305", checked := Try.checked }
namespace Rows
def none {H : Type} : Left H := { results := [], args := [] }

/-- 'transhumancelaw05.SeedTells': WHATEVER THE INPUT: true; the input reads as it did. -/
def seedTellsSpec : ChangeSpec := { name := "seedTells", fn := fun _ => fun
  | [d1, d2] => { results := [.lit (.bool true)], args := [d1, d2] }
  | _ => none }
def seedTellsRow : OpenClaim := { program := "ytlkmomkpdmmjkaa", sum := "a589e27774a0ffabc3a795c8f36af1373a2a5229417e6fe279b71f439b30e305", func := "transhumance/transhumancelaw05.SeedTells", spec := "seedTells", apart := false }
def SeedTellsSaid : Prop := seedTellsRow.holds Try.pinned (OpenSpec.ofChange seedTellsSpec)

/-- ITS FALSE NEIGHBOUR: 'it returns false'. Refute it at one input. -/
def seedTellsWrong : ChangeSpec := { name := "seedTells", fn := fun _ => fun
  | [d1, d2] => { results := [.lit (.bool false)], args := [d1, d2] }
  | _ => none }
def SeedTellsWrongFalsely : Prop := seedTellsRow.holds Try.pinned (OpenSpec.ofChange seedTellsWrong)

/-- 'transhumancelaw05.SeedApart': WHATEVER THE INPUT: true; the input reads as it did. -/
def seedApartSpec : ChangeSpec := { name := "seedApart", fn := fun _ => fun
  | [d1, d2, d3] => { results := [.lit (.bool true)], args := [d1, d2, d3] }
  | _ => none }
def seedApartRow : OpenClaim := { program := "ytlkmomkpdmmjkaa", sum := "a589e27774a0ffabc3a795c8f36af1373a2a5229417e6fe279b71f439b30e305", func := "transhumance/transhumancelaw05.SeedApart", spec := "seedApart", apart := false }
def SeedApartSaid : Prop := seedApartRow.holds Try.pinned (OpenSpec.ofChange seedApartSpec)

/-- ITS FALSE NEIGHBOUR: 'it returns false'. Refute it at one input. -/
def seedApartWrong : ChangeSpec := { name := "seedApart", fn := fun _ => fun
  | [d1, d2, d3] => { results := [.lit (.bool false)], args := [d1, d2, d3] }
  | _ => none }
def SeedApartWrongFalsely : Prop := seedApartRow.holds Try.pinned (OpenSpec.ofChange seedApartWrong)

/-- 'transhumancelaw05.SeedDraws': WHATEVER THE INPUT: true; the input reads as it did. -/
def seedDrawsSpec : ChangeSpec := { name := "seedDraws", fn := fun _ => fun
  | [d1, d2] => { results := [.lit (.bool true)], args := [d1, d2] }
  | _ => none }
def seedDrawsRow : OpenClaim := { program := "ytlkmomkpdmmjkaa", sum := "a589e27774a0ffabc3a795c8f36af1373a2a5229417e6fe279b71f439b30e305", func := "transhumance/transhumancelaw05.SeedDraws", spec := "seedDraws", apart := false }
def SeedDrawsSaid : Prop := seedDrawsRow.holds Try.pinned (OpenSpec.ofChange seedDrawsSpec)

/-- ITS FALSE NEIGHBOUR: 'it returns false'. Refute it at one input. -/
def seedDrawsWrong : ChangeSpec := { name := "seedDraws", fn := fun _ => fun
  | [d1, d2] => { results := [.lit (.bool false)], args := [d1, d2] }
  | _ => none }
def SeedDrawsWrongFalsely : Prop := seedDrawsRow.holds Try.pinned (OpenSpec.ofChange seedDrawsWrong)

/-- 'transhumancelaw05.SeedWays': WHATEVER THE INPUT: true; the input reads as it did. -/
def seedWaysSpec : ChangeSpec := { name := "seedWays", fn := fun _ => fun
  | [d1, d2, d3] => { results := [.lit (.bool true)], args := [d1, d2, d3] }
  | _ => none }
def seedWaysRow : OpenClaim := { program := "ytlkmomkpdmmjkaa", sum := "a589e27774a0ffabc3a795c8f36af1373a2a5229417e6fe279b71f439b30e305", func := "transhumance/transhumancelaw05.SeedWays", spec := "seedWays", apart := false }
def SeedWaysSaid : Prop := seedWaysRow.holds Try.pinned (OpenSpec.ofChange seedWaysSpec)

/-- ITS FALSE NEIGHBOUR: 'it returns false'. Refute it at one input. -/
def seedWaysWrong : ChangeSpec := { name := "seedWays", fn := fun _ => fun
  | [d1, d2, d3] => { results := [.lit (.bool false)], args := [d1, d2, d3] }
  | _ => none }
def SeedWaysWrongFalsely : Prop := seedWaysRow.holds Try.pinned (OpenSpec.ofChange seedWaysWrong)

/-- 'transhumancelaw05.SeedSpread': WHATEVER THE INPUT: true; the input reads as it did. -/
def seedSpreadSpec : ChangeSpec := { name := "seedSpread", fn := fun _ => fun
  | [d1, d2] => { results := [.lit (.bool true)], args := [d1, d2] }
  | _ => none }
def seedSpreadRow : OpenClaim := { program := "ytlkmomkpdmmjkaa", sum := "a589e27774a0ffabc3a795c8f36af1373a2a5229417e6fe279b71f439b30e305", func := "transhumance/transhumancelaw05.SeedSpread", spec := "seedSpread", apart := false }
def SeedSpreadSaid : Prop := seedSpreadRow.holds Try.pinned (OpenSpec.ofChange seedSpreadSpec)

/-- ITS FALSE NEIGHBOUR: 'it returns false'. Refute it at one input. -/
def seedSpreadWrong : ChangeSpec := { name := "seedSpread", fn := fun _ => fun
  | [d1, d2] => { results := [.lit (.bool false)], args := [d1, d2] }
  | _ => none }
def SeedSpreadWrongFalsely : Prop := seedSpreadRow.holds Try.pinned (OpenSpec.ofChange seedSpreadWrong)

/-- 'transhumancelaw06.OpTells': WHATEVER THE INPUT: true; the input reads as it did. -/
def opTellsSpec : ChangeSpec := { name := "opTells", fn := fun _ => fun
  | [d1, d2, d3] => { results := [.lit (.bool true)], args := [d1, d2, d3] }
  | _ => none }
def opTellsRow : OpenClaim := { program := "ytlkmomkpdmmjkaa", sum := "a589e27774a0ffabc3a795c8f36af1373a2a5229417e6fe279b71f439b30e305", func := "transhumance/transhumancelaw06.OpTells", spec := "opTells", unfollowed := true, recurses := true, apart := false }
def OpTellsSaid : Prop := opTellsRow.holds Try.pinned (OpenSpec.ofChange opTellsSpec)

/-- ITS FALSE NEIGHBOUR: 'it returns false'. Refute it at one input. -/
def opTellsWrong : ChangeSpec := { name := "opTells", fn := fun _ => fun
  | [d1, d2, d3] => { results := [.lit (.bool false)], args := [d1, d2, d3] }
  | _ => none }
def OpTellsWrongFalsely : Prop := opTellsRow.holds Try.pinned (OpenSpec.ofChange opTellsWrong)

/-- 'transhumancelaw06.OpNames': WHATEVER THE INPUT: true; the input reads as it did. -/
def opNamesSpec : ChangeSpec := { name := "opNames", fn := fun _ => fun
  | [d1, d2] => { results := [.lit (.bool true)], args := [d1, d2] }
  | _ => none }
def opNamesRow : OpenClaim := { program := "ytlkmomkpdmmjkaa", sum := "a589e27774a0ffabc3a795c8f36af1373a2a5229417e6fe279b71f439b30e305", func := "transhumance/transhumancelaw06.OpNames", spec := "opNames", unfollowed := true, recurses := true, apart := false }
def OpNamesSaid : Prop := opNamesRow.holds Try.pinned (OpenSpec.ofChange opNamesSpec)

/-- ITS FALSE NEIGHBOUR: 'it returns false'. Refute it at one input. -/
def opNamesWrong : ChangeSpec := { name := "opNames", fn := fun _ => fun
  | [d1, d2] => { results := [.lit (.bool false)], args := [d1, d2] }
  | _ => none }
def OpNamesWrongFalsely : Prop := opNamesRow.holds Try.pinned (OpenSpec.ofChange opNamesWrong)

/-- 'transhumancelaw06.OpFields': WHATEVER THE INPUT: true; the input reads as it did. -/
def opFieldsSpec : ChangeSpec := { name := "opFields", fn := fun _ => fun
  | [d] => { results := [.lit (.bool true)], args := [d] }
  | _ => none }
def opFieldsRow : OpenClaim := { program := "ytlkmomkpdmmjkaa", sum := "a589e27774a0ffabc3a795c8f36af1373a2a5229417e6fe279b71f439b30e305", func := "transhumance/transhumancelaw06.OpFields", spec := "opFields", unfollowed := true, recurses := true, apart := false }
def OpFieldsSaid : Prop := opFieldsRow.holds Try.pinned (OpenSpec.ofChange opFieldsSpec)

/-- ITS FALSE NEIGHBOUR: 'it returns false'. Refute it at one input. -/
def opFieldsWrong : ChangeSpec := { name := "opFields", fn := fun _ => fun
  | [d] => { results := [.lit (.bool false)], args := [d] }
  | _ => none }
def OpFieldsWrongFalsely : Prop := opFieldsRow.holds Try.pinned (OpenSpec.ofChange opFieldsWrong)

/-- 'transhumancelaw06.OpStacks': WHATEVER THE INPUT: true; the input reads as it did. -/
def opStacksSpec : ChangeSpec := { name := "opStacks", fn := fun _ => fun
  | [d] => { results := [.lit (.bool true)], args := [d] }
  | _ => none }
def opStacksRow : OpenClaim := { program := "ytlkmomkpdmmjkaa", sum := "a589e27774a0ffabc3a795c8f36af1373a2a5229417e6fe279b71f439b30e305", func := "transhumance/transhumancelaw06.OpStacks", spec := "opStacks", unfollowed := true, recurses := true, apart := false }
def OpStacksSaid : Prop := opStacksRow.holds Try.pinned (OpenSpec.ofChange opStacksSpec)

/-- ITS FALSE NEIGHBOUR: 'it returns false'. Refute it at one input. -/
def opStacksWrong : ChangeSpec := { name := "opStacks", fn := fun _ => fun
  | [d] => { results := [.lit (.bool false)], args := [d] }
  | _ => none }
def OpStacksWrongFalsely : Prop := opStacksRow.holds Try.pinned (OpenSpec.ofChange opStacksWrong)

/-- 'transhumancelaw06.OpText': WHATEVER THE INPUT: true; the input reads as it did. -/
def opTextSpec : ChangeSpec := { name := "opText", fn := fun _ => fun
  | [d1, d2] => { results := [.lit (.bool true)], args := [d1, d2] }
  | _ => none }
def opTextRow : OpenClaim := { program := "ytlkmomkpdmmjkaa", sum := "a589e27774a0ffabc3a795c8f36af1373a2a5229417e6fe279b71f439b30e305", func := "transhumance/transhumancelaw06.OpText", spec := "opText", unfollowed := true, recurses := true, apart := false }
def OpTextSaid : Prop := opTextRow.holds Try.pinned (OpenSpec.ofChange opTextSpec)

/-- ITS FALSE NEIGHBOUR: 'it returns false'. Refute it at one input. -/
def opTextWrong : ChangeSpec := { name := "opText", fn := fun _ => fun
  | [d1, d2] => { results := [.lit (.bool false)], args := [d1, d2] }
  | _ => none }
def OpTextWrongFalsely : Prop := opTextRow.holds Try.pinned (OpenSpec.ofChange opTextWrong)

/- THE SECOND FORM. 'bulk': how many values and letters a reading holds, each counted each time it is reached (what is shared counts as often as it is met; a slice's spare places count too). A statement '..UptoSaid' is the law's where the arguments, and the package variables that the reading takes, are together of bulk at most 1048576: NARROWER than '..Said'. Prove '..Said' where nothing that the law and all that it calls make is longer than what came in: it says more and counts as full. Else prove '..UptoSaid'. A law counts once. -/
mutual
def uptoBulk {H : Type} : DataW H → Nat
  | .lit (.string bytes) => bytes.length + 1
  | .lit _ => 1
  | .nil => 1
  | .ptr d => uptoBulk d + 1
  | .slice elems spare => uptoBulkAll elems + uptoBulkAll spare + 1
  | .agg parts => uptoBulkAll parts + 1
  | .iface _ d => uptoBulk d + 1
  | .map entries => uptoBulkEntries entries + 1
  | .held _ => 1
def uptoBulkAll {H : Type} : List (DataW H) → Nat
  | [] => 0
  | d :: r => uptoBulk d + uptoBulkAll r
def uptoBulkEntries {H : Type} : List (Lit × DataW H) → Nat
  | [] => 0
  | x :: r => uptoBulkEntry x + uptoBulkEntries r
def uptoBulkEntry {H : Type} : Lit × DataW H → Nat
  | (.string bytes, d) => bytes.length + uptoBulk d + 1
  | (_, d) => uptoBulk d + 1
 end
def uptoSmall : (H : Type) → List (DataW H) → Bool := fun _ ds => decide (uptoBulkAll ds ≤ 1048576)
def OpenSpec.upto (s : _root_.Go.ChangeSpec) : _root_.Go.OpenSpec := { _root_.Go.OpenSpec.ofChange s with cond := some uptoSmall }

/-- 'transhumancelaw05.SeedTells', WHERE WHAT IT READS IS OF BULK AT MOST 1048576: true; the input reads as it did. -/
def seedTellsUptoRow : OpenClaim := { program := "ytlkmomkpdmmjkaa", sum := "a589e27774a0ffabc3a795c8f36af1373a2a5229417e6fe279b71f439b30e305", func := "transhumance/transhumancelaw05.SeedTells", spec := "seedTells", apart := false, narrowed := true }
def SeedTellsUptoSaid : Prop := seedTellsUptoRow.holds Try.pinned (OpenSpec.upto seedTellsSpec)

/-- 'transhumancelaw05.SeedApart', WHERE WHAT IT READS IS OF BULK AT MOST 1048576: true; the input reads as it did. -/
def seedApartUptoRow : OpenClaim := { program := "ytlkmomkpdmmjkaa", sum := "a589e27774a0ffabc3a795c8f36af1373a2a5229417e6fe279b71f439b30e305", func := "transhumance/transhumancelaw05.SeedApart", spec := "seedApart", apart := false, narrowed := true }
def SeedApartUptoSaid : Prop := seedApartUptoRow.holds Try.pinned (OpenSpec.upto seedApartSpec)

/-- 'transhumancelaw05.SeedDraws', WHERE WHAT IT READS IS OF BULK AT MOST 1048576: true; the input reads as it did. -/
def seedDrawsUptoRow : OpenClaim := { program := "ytlkmomkpdmmjkaa", sum := "a589e27774a0ffabc3a795c8f36af1373a2a5229417e6fe279b71f439b30e305", func := "transhumance/transhumancelaw05.SeedDraws", spec := "seedDraws", apart := false, narrowed := true }
def SeedDrawsUptoSaid : Prop := seedDrawsUptoRow.holds Try.pinned (OpenSpec.upto seedDrawsSpec)

/-- 'transhumancelaw05.SeedWays', WHERE WHAT IT READS IS OF BULK AT MOST 1048576: true; the input reads as it did. -/
def seedWaysUptoRow : OpenClaim := { program := "ytlkmomkpdmmjkaa", sum := "a589e27774a0ffabc3a795c8f36af1373a2a5229417e6fe279b71f439b30e305", func := "transhumance/transhumancelaw05.SeedWays", spec := "seedWays", apart := false, narrowed := true }
def SeedWaysUptoSaid : Prop := seedWaysUptoRow.holds Try.pinned (OpenSpec.upto seedWaysSpec)

/-- 'transhumancelaw05.SeedSpread', WHERE WHAT IT READS IS OF BULK AT MOST 1048576: true; the input reads as it did. -/
def seedSpreadUptoRow : OpenClaim := { program := "ytlkmomkpdmmjkaa", sum := "a589e27774a0ffabc3a795c8f36af1373a2a5229417e6fe279b71f439b30e305", func := "transhumance/transhumancelaw05.SeedSpread", spec := "seedSpread", apart := false, narrowed := true }
def SeedSpreadUptoSaid : Prop := seedSpreadUptoRow.holds Try.pinned (OpenSpec.upto seedSpreadSpec)

/-- 'transhumancelaw06.OpTells', WHERE WHAT IT READS IS OF BULK AT MOST 1048576: true; the input reads as it did. -/
def opTellsUptoRow : OpenClaim := { program := "ytlkmomkpdmmjkaa", sum := "a589e27774a0ffabc3a795c8f36af1373a2a5229417e6fe279b71f439b30e305", func := "transhumance/transhumancelaw06.OpTells", spec := "opTells", unfollowed := true, recurses := true, apart := false, narrowed := true }
def OpTellsUptoSaid : Prop := opTellsUptoRow.holds Try.pinned (OpenSpec.upto opTellsSpec)

/-- 'transhumancelaw06.OpNames', WHERE WHAT IT READS IS OF BULK AT MOST 1048576: true; the input reads as it did. -/
def opNamesUptoRow : OpenClaim := { program := "ytlkmomkpdmmjkaa", sum := "a589e27774a0ffabc3a795c8f36af1373a2a5229417e6fe279b71f439b30e305", func := "transhumance/transhumancelaw06.OpNames", spec := "opNames", unfollowed := true, recurses := true, apart := false, narrowed := true }
def OpNamesUptoSaid : Prop := opNamesUptoRow.holds Try.pinned (OpenSpec.upto opNamesSpec)

/-- 'transhumancelaw06.OpFields', WHERE WHAT IT READS IS OF BULK AT MOST 1048576: true; the input reads as it did. -/
def opFieldsUptoRow : OpenClaim := { program := "ytlkmomkpdmmjkaa", sum := "a589e27774a0ffabc3a795c8f36af1373a2a5229417e6fe279b71f439b30e305", func := "transhumance/transhumancelaw06.OpFields", spec := "opFields", unfollowed := true, recurses := true, apart := false, narrowed := true }
def OpFieldsUptoSaid : Prop := opFieldsUptoRow.holds Try.pinned (OpenSpec.upto opFieldsSpec)

/-- 'transhumancelaw06.OpStacks', WHERE WHAT IT READS IS OF BULK AT MOST 1048576: true; the input reads as it did. -/
def opStacksUptoRow : OpenClaim := { program := "ytlkmomkpdmmjkaa", sum := "a589e27774a0ffabc3a795c8f36af1373a2a5229417e6fe279b71f439b30e305", func := "transhumance/transhumancelaw06.OpStacks", spec := "opStacks", unfollowed := true, recurses := true, apart := false, narrowed := true }
def OpStacksUptoSaid : Prop := opStacksUptoRow.holds Try.pinned (OpenSpec.upto opStacksSpec)

/-- 'transhumancelaw06.OpText', WHERE WHAT IT READS IS OF BULK AT MOST 1048576: true; the input reads as it did. -/
def opTextUptoRow : OpenClaim := { program := "ytlkmomkpdmmjkaa", sum := "a589e27774a0ffabc3a795c8f36af1373a2a5229417e6fe279b71f439b30e305", func := "transhumance/transhumancelaw06.OpText", spec := "opText", unfollowed := true, recurses := true, apart := false, narrowed := true }
def OpTextUptoSaid : Prop := opTextUptoRow.holds Try.pinned (OpenSpec.upto opTextSpec)

end Rows
end Go.Proofs.Ytlkmomkpdmmjkaa
