/-
  No cell of these rows narrows 'for every input' (looked for: loops, veiled, ifaces, maps, wideKeys, modest, calm, conditions, laid).
  DERIVED. THE GIVEN ROWS OF THIS SEAT. 6 by the template 'for every input the law returns true; each argument reads behind the call as it read before'; 0 by the template 'total and deterministic' (their statements: YtlpadffinfijgaaTotals.lean).
  GIVEN WITH THE SEED: the statements are not yours to turn. If you find one false, say at which input.
  Laid BY PROGRAM, IN A SANDBOX (cutbox-rows.mjs): the forced cells as the released guide's own fill.sh prints them over the translation e77881dea51d0b06… (all of the seat's roots in one cut). By AI agents, Wed Nov 11 2026. No macro, syntax, notation, axiom, sorry.
-/
import Derived.Test.YtlpadffinfijgaaChecked
import GoSem.Claim
import GoSem.ClaimJoined
import GoSem.ClaimMapViews
import Derived.JoinedTies
import Derived.KernelRfl
namespace Go.Proofs.Ytlpadffinfijgaa
/- THE CELL 'sum', in the pinned program and in every row, IS THE sha256 OF THE DUMP (.gsa) THAT YtlpadffinfijgaaProg.lean LOADS. Nothing in Lean hashes anything: it is a label: what it is worth is what the hold of that sum in a sandbox is worth. -/
noncomputable def Try.pinned : Pinned := { name := "ytlpadffinfijgaa", sum := "e77881dea51d0b0674068a5584342f714e0f3d7de15e346e2da0954c232a5e31", checked := Try.checked }
namespace Rows
def none {H : Type} : Left H := { results := [], args := [] }

/-- 'transhumancelaw10.SeqFuel': WHATEVER THE INPUT: true; the input reads as it did. -/
def seqFuelSpec : ChangeSpec := { name := "seqFuel", fn := fun _ => fun
  | [d1, d2, d3] => { results := [.lit (.bool true)], args := [d1, d2, d3] }
  | _ => none }
def seqFuelRow : OpenClaim := { program := "ytlpadffinfijgaa", sum := "e77881dea51d0b0674068a5584342f714e0f3d7de15e346e2da0954c232a5e31", func := "transhumance/transhumancelaw10.SeqFuel", spec := "seqFuel", unfollowed := true, recurses := true, apart := false }
def SeqFuelSaid : Prop := seqFuelRow.holds Try.pinned (OpenSpec.ofChange seqFuelSpec)

/-- ITS FALSE NEIGHBOUR: 'it returns false'. Refute it at one input. -/
def seqFuelWrong : ChangeSpec := { name := "seqFuel", fn := fun _ => fun
  | [d1, d2, d3] => { results := [.lit (.bool false)], args := [d1, d2, d3] }
  | _ => none }
def SeqFuelWrongFalsely : Prop := seqFuelRow.holds Try.pinned (OpenSpec.ofChange seqFuelWrong)

/-- 'transhumancelaw10.SeqValue': WHATEVER THE INPUT: true; the input reads as it did. -/
def seqValueSpec : ChangeSpec := { name := "seqValue", fn := fun _ => fun
  | [d1, d2] => { results := [.lit (.bool true)], args := [d1, d2] }
  | _ => none }
def seqValueRow : OpenClaim := { program := "ytlpadffinfijgaa", sum := "e77881dea51d0b0674068a5584342f714e0f3d7de15e346e2da0954c232a5e31", func := "transhumance/transhumancelaw10.SeqValue", spec := "seqValue", unfollowed := true, recurses := true, apart := false }
def SeqValueSaid : Prop := seqValueRow.holds Try.pinned (OpenSpec.ofChange seqValueSpec)

/-- ITS FALSE NEIGHBOUR: 'it returns false'. Refute it at one input. -/
def seqValueWrong : ChangeSpec := { name := "seqValue", fn := fun _ => fun
  | [d1, d2] => { results := [.lit (.bool false)], args := [d1, d2] }
  | _ => none }
def SeqValueWrongFalsely : Prop := seqValueRow.holds Try.pinned (OpenSpec.ofChange seqValueWrong)

/-- 'transhumancelaw10.SeqSum': WHATEVER THE INPUT: true; the input reads as it did. -/
def seqSumSpec : ChangeSpec := { name := "seqSum", fn := fun _ => fun
  | [d1, d2] => { results := [.lit (.bool true)], args := [d1, d2] }
  | _ => none }
def seqSumRow : OpenClaim := { program := "ytlpadffinfijgaa", sum := "e77881dea51d0b0674068a5584342f714e0f3d7de15e346e2da0954c232a5e31", func := "transhumance/transhumancelaw10.SeqSum", spec := "seqSum", unfollowed := true, recurses := true, apart := false }
def SeqSumSaid : Prop := seqSumRow.holds Try.pinned (OpenSpec.ofChange seqSumSpec)

/-- ITS FALSE NEIGHBOUR: 'it returns false'. Refute it at one input. -/
def seqSumWrong : ChangeSpec := { name := "seqSum", fn := fun _ => fun
  | [d1, d2] => { results := [.lit (.bool false)], args := [d1, d2] }
  | _ => none }
def SeqSumWrongFalsely : Prop := seqSumRow.holds Try.pinned (OpenSpec.ofChange seqSumWrong)

/-- 'transhumancelaw10.SeqTraps': WHATEVER THE INPUT: true; the input reads as it did. -/
def seqTrapsSpec : ChangeSpec := { name := "seqTraps", fn := fun _ => fun
  | [d1, d2, d3] => { results := [.lit (.bool true)], args := [d1, d2, d3] }
  | _ => none }
def seqTrapsRow : OpenClaim := { program := "ytlpadffinfijgaa", sum := "e77881dea51d0b0674068a5584342f714e0f3d7de15e346e2da0954c232a5e31", func := "transhumance/transhumancelaw10.SeqTraps", spec := "seqTraps", unfollowed := true, recurses := true, apart := false }
def SeqTrapsSaid : Prop := seqTrapsRow.holds Try.pinned (OpenSpec.ofChange seqTrapsSpec)

/-- ITS FALSE NEIGHBOUR: 'it returns false'. Refute it at one input. -/
def seqTrapsWrong : ChangeSpec := { name := "seqTraps", fn := fun _ => fun
  | [d1, d2, d3] => { results := [.lit (.bool false)], args := [d1, d2, d3] }
  | _ => none }
def SeqTrapsWrongFalsely : Prop := seqTrapsRow.holds Try.pinned (OpenSpec.ofChange seqTrapsWrong)

/-- 'transhumancelaw10.SeqSeeds': WHATEVER THE INPUT: true; the input reads as it did. -/
def seqSeedsSpec : ChangeSpec := { name := "seqSeeds", fn := fun _ => fun
  | [d1, d2, d3] => { results := [.lit (.bool true)], args := [d1, d2, d3] }
  | _ => none }
def seqSeedsRow : OpenClaim := { program := "ytlpadffinfijgaa", sum := "e77881dea51d0b0674068a5584342f714e0f3d7de15e346e2da0954c232a5e31", func := "transhumance/transhumancelaw10.SeqSeeds", spec := "seqSeeds", unfollowed := true, recurses := true, apart := false }
def SeqSeedsSaid : Prop := seqSeedsRow.holds Try.pinned (OpenSpec.ofChange seqSeedsSpec)

/-- ITS FALSE NEIGHBOUR: 'it returns false'. Refute it at one input. -/
def seqSeedsWrong : ChangeSpec := { name := "seqSeeds", fn := fun _ => fun
  | [d1, d2, d3] => { results := [.lit (.bool false)], args := [d1, d2, d3] }
  | _ => none }
def SeqSeedsWrongFalsely : Prop := seqSeedsRow.holds Try.pinned (OpenSpec.ofChange seqSeedsWrong)

/-- 'transhumancelaw10.SeqWraps': WHATEVER THE INPUT: true; the input reads as it did. -/
def seqWrapsSpec : ChangeSpec := { name := "seqWraps", fn := fun _ => fun
  | [d] => { results := [.lit (.bool true)], args := [d] }
  | _ => none }
def seqWrapsRow : OpenClaim := { program := "ytlpadffinfijgaa", sum := "e77881dea51d0b0674068a5584342f714e0f3d7de15e346e2da0954c232a5e31", func := "transhumance/transhumancelaw10.SeqWraps", spec := "seqWraps", unfollowed := true, recurses := true, apart := false }
def SeqWrapsSaid : Prop := seqWrapsRow.holds Try.pinned (OpenSpec.ofChange seqWrapsSpec)

/-- ITS FALSE NEIGHBOUR: 'it returns false'. Refute it at one input. -/
def seqWrapsWrong : ChangeSpec := { name := "seqWraps", fn := fun _ => fun
  | [d] => { results := [.lit (.bool false)], args := [d] }
  | _ => none }
def SeqWrapsWrongFalsely : Prop := seqWrapsRow.holds Try.pinned (OpenSpec.ofChange seqWrapsWrong)

/- THE SECOND FORM. 'bulk': how many values and letters a reading holds, each counted each time it is reached (what is shared counts as often as it is met; a slice's spare places count too). A statement '..UptoSaid' is the law's where the arguments, and the package variables that the reading takes, are together of bulk at most 1048576: NARROWER than '..Said'. Prove '..Said' where nothing that the law and all that it calls make is longer than what came in: it says more and counts as full. Else prove '..UptoSaid'. A law counts once. -/
mutual
def uptoBulk {H : Type} : DataW H → Nat
  | .lit (.string bytes) => bytes.length + 1
  | .lit _ => 1
  | .nil => 1
  | .ptr d => uptoBulk d + 1
  | .slice elems spare => uptoBulkAll elems + uptoBulkAll spare + 1
  | .agg parts => uptoBulkAll parts + 1
  | .iface _ d => uptoBulk d + 1
  | .map entries => uptoBulkEntries entries + 1
  | .held _ => 1
def uptoBulkAll {H : Type} : List (DataW H) → Nat
  | [] => 0
  | d :: r => uptoBulk d + uptoBulkAll r
def uptoBulkEntries {H : Type} : List (Lit × DataW H) → Nat
  | [] => 0
  | x :: r => uptoBulkEntry x + uptoBulkEntries r
def uptoBulkEntry {H : Type} : Lit × DataW H → Nat
  | (.string bytes, d) => bytes.length + uptoBulk d + 1
  | (_, d) => uptoBulk d + 1
 end
def uptoSmall : (H : Type) → List (DataW H) → Bool := fun _ ds => decide (uptoBulkAll ds ≤ 1048576)
def OpenSpec.upto (s : _root_.Go.ChangeSpec) : _root_.Go.OpenSpec := { _root_.Go.OpenSpec.ofChange s with cond := some uptoSmall }

/-- 'transhumancelaw10.SeqFuel', WHERE WHAT IT READS IS OF BULK AT MOST 1048576: true; the input reads as it did. -/
def seqFuelUptoRow : OpenClaim := { program := "ytlpadffinfijgaa", sum := "e77881dea51d0b0674068a5584342f714e0f3d7de15e346e2da0954c232a5e31", func := "transhumance/transhumancelaw10.SeqFuel", spec := "seqFuel", unfollowed := true, recurses := true, apart := false, narrowed := true }
def SeqFuelUptoSaid : Prop := seqFuelUptoRow.holds Try.pinned (OpenSpec.upto seqFuelSpec)

/-- 'transhumancelaw10.SeqValue', WHERE WHAT IT READS IS OF BULK AT MOST 1048576: true; the input reads as it did. -/
def seqValueUptoRow : OpenClaim := { program := "ytlpadffinfijgaa", sum := "e77881dea51d0b0674068a5584342f714e0f3d7de15e346e2da0954c232a5e31", func := "transhumance/transhumancelaw10.SeqValue", spec := "seqValue", unfollowed := true, recurses := true, apart := false, narrowed := true }
def SeqValueUptoSaid : Prop := seqValueUptoRow.holds Try.pinned (OpenSpec.upto seqValueSpec)

/-- 'transhumancelaw10.SeqSum', WHERE WHAT IT READS IS OF BULK AT MOST 1048576: true; the input reads as it did. -/
def seqSumUptoRow : OpenClaim := { program := "ytlpadffinfijgaa", sum := "e77881dea51d0b0674068a5584342f714e0f3d7de15e346e2da0954c232a5e31", func := "transhumance/transhumancelaw10.SeqSum", spec := "seqSum", unfollowed := true, recurses := true, apart := false, narrowed := true }
def SeqSumUptoSaid : Prop := seqSumUptoRow.holds Try.pinned (OpenSpec.upto seqSumSpec)

/-- 'transhumancelaw10.SeqTraps', WHERE WHAT IT READS IS OF BULK AT MOST 1048576: true; the input reads as it did. -/
def seqTrapsUptoRow : OpenClaim := { program := "ytlpadffinfijgaa", sum := "e77881dea51d0b0674068a5584342f714e0f3d7de15e346e2da0954c232a5e31", func := "transhumance/transhumancelaw10.SeqTraps", spec := "seqTraps", unfollowed := true, recurses := true, apart := false, narrowed := true }
def SeqTrapsUptoSaid : Prop := seqTrapsUptoRow.holds Try.pinned (OpenSpec.upto seqTrapsSpec)

/-- 'transhumancelaw10.SeqSeeds', WHERE WHAT IT READS IS OF BULK AT MOST 1048576: true; the input reads as it did. -/
def seqSeedsUptoRow : OpenClaim := { program := "ytlpadffinfijgaa", sum := "e77881dea51d0b0674068a5584342f714e0f3d7de15e346e2da0954c232a5e31", func := "transhumance/transhumancelaw10.SeqSeeds", spec := "seqSeeds", unfollowed := true, recurses := true, apart := false, narrowed := true }
def SeqSeedsUptoSaid : Prop := seqSeedsUptoRow.holds Try.pinned (OpenSpec.upto seqSeedsSpec)

/-- 'transhumancelaw10.SeqWraps', WHERE WHAT IT READS IS OF BULK AT MOST 1048576: true; the input reads as it did. -/
def seqWrapsUptoRow : OpenClaim := { program := "ytlpadffinfijgaa", sum := "e77881dea51d0b0674068a5584342f714e0f3d7de15e346e2da0954c232a5e31", func := "transhumance/transhumancelaw10.SeqWraps", spec := "seqWraps", unfollowed := true, recurses := true, apart := false, narrowed := true }
def SeqWrapsUptoSaid : Prop := seqWrapsUptoRow.holds Try.pinned (OpenSpec.upto seqWrapsSpec)

end Rows
end Go.Proofs.Ytlpadffinfijgaa
