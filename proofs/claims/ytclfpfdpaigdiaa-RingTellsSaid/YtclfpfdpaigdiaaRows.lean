/-
  No cell of these rows narrows 'for every input' (looked for: loops, veiled, ifaces, maps, wideKeys, modest, calm, conditions, laid).
  DERIVED. THE GIVEN ROWS OF THIS SEAT. 6 by the template 'for every input the law returns true; each argument reads behind the call as it read before'; 0 by the template 'total and deterministic' (their statements: YtclfpfdpaigdiaaTotals.lean).
  GIVEN WITH THE SEED: the statements are not yours to turn. If you find one false, say at which input.
  Laid BY PROGRAM, IN A SANDBOX (cutbox-rows.mjs): the forced cells as the released guide's own fill.sh prints them over the translation b8e5df95498dd794… (all of the seat's roots in one cut). By AI agents, Wed Nov 11 2026. No macro, syntax, notation, axiom, sorry.
-/
import Derived.Test.YtclfpfdpaigdiaaChecked
import GoSem.Claim
import GoSem.ClaimJoined
import GoSem.ClaimMapViews
import Derived.JoinedTies
import Derived.KernelRfl
namespace Go.Proofs.Ytclfpfdpaigdiaa
/- THE CELL 'sum', in the pinned program and in every row, IS THE sha256 OF THE DUMP (.gsa) THAT YtclfpfdpaigdiaaProg.lean LOADS. Nothing in Lean hashes anything: it is a label: what it is worth is what the hold of that sum in a sandbox is worth. -/
noncomputable def Try.pinned : Pinned := { name := "ytclfpfdpaigdiaa", sum := "b8e5df95498dd794ace2f96a22744582d85c0d832ba2b949f010cc9e9aeac7b3", checked := Try.checked }
namespace Rows
def none {H : Type} : Left H := { results := [], args := [] }

/-- 'transhumancelaw11.RingTells': WHATEVER THE INPUT: true; the input reads as it did. -/
def ringTellsSpec : ChangeSpec := { name := "ringTells", fn := fun _ => fun
  | [d1, d2, d3] => { results := [.lit (.bool true)], args := [d1, d2, d3] }
  | _ => none }
def ringTellsRow : OpenClaim := { program := "ytclfpfdpaigdiaa", sum := "b8e5df95498dd794ace2f96a22744582d85c0d832ba2b949f010cc9e9aeac7b3", func := "transhumance/transhumancelaw11.RingTells", spec := "ringTells", apart := false }
def RingTellsSaid : Prop := ringTellsRow.holds Try.pinned (OpenSpec.ofChange ringTellsSpec)

/-- ITS FALSE NEIGHBOUR: 'it returns false'. Refute it at one input. -/
def ringTellsWrong : ChangeSpec := { name := "ringTells", fn := fun _ => fun
  | [d1, d2, d3] => { results := [.lit (.bool false)], args := [d1, d2, d3] }
  | _ => none }
def RingTellsWrongFalsely : Prop := ringTellsRow.holds Try.pinned (OpenSpec.ofChange ringTellsWrong)

/-- 'transhumancelaw11.RingList': WHATEVER THE INPUT: true; the input reads as it did. -/
def ringListSpec : ChangeSpec := { name := "ringList", fn := fun _ => fun
  | [d1, d2] => { results := [.lit (.bool true)], args := [d1, d2] }
  | _ => none }
def ringListRow : OpenClaim := { program := "ytclfpfdpaigdiaa", sum := "b8e5df95498dd794ace2f96a22744582d85c0d832ba2b949f010cc9e9aeac7b3", func := "transhumance/transhumancelaw11.RingList", spec := "ringList", apart := false }
def RingListSaid : Prop := ringListRow.holds Try.pinned (OpenSpec.ofChange ringListSpec)

/-- ITS FALSE NEIGHBOUR: 'it returns false'. Refute it at one input. -/
def ringListWrong : ChangeSpec := { name := "ringList", fn := fun _ => fun
  | [d1, d2] => { results := [.lit (.bool false)], args := [d1, d2] }
  | _ => none }
def RingListWrongFalsely : Prop := ringListRow.holds Try.pinned (OpenSpec.ofChange ringListWrong)

/-- 'transhumancelaw11.RingEnds': WHATEVER THE INPUT: true; the input reads as it did. -/
def ringEndsSpec : ChangeSpec := { name := "ringEnds", fn := fun _ => fun
  | [d1, d2] => { results := [.lit (.bool true)], args := [d1, d2] }
  | _ => none }
def ringEndsRow : OpenClaim := { program := "ytclfpfdpaigdiaa", sum := "b8e5df95498dd794ace2f96a22744582d85c0d832ba2b949f010cc9e9aeac7b3", func := "transhumance/transhumancelaw11.RingEnds", spec := "ringEnds", apart := false }
def RingEndsSaid : Prop := ringEndsRow.holds Try.pinned (OpenSpec.ofChange ringEndsSpec)

/-- ITS FALSE NEIGHBOUR: 'it returns false'. Refute it at one input. -/
def ringEndsWrong : ChangeSpec := { name := "ringEnds", fn := fun _ => fun
  | [d1, d2] => { results := [.lit (.bool false)], args := [d1, d2] }
  | _ => none }
def RingEndsWrongFalsely : Prop := ringEndsRow.holds Try.pinned (OpenSpec.ofChange ringEndsWrong)

/-- 'transhumancelaw11.RingParts': WHATEVER THE INPUT: true; the input reads as it did. -/
def ringPartsSpec : ChangeSpec := { name := "ringParts", fn := fun _ => fun
  | [d1, d2, d3] => { results := [.lit (.bool true)], args := [d1, d2, d3] }
  | _ => none }
def ringPartsRow : OpenClaim := { program := "ytclfpfdpaigdiaa", sum := "b8e5df95498dd794ace2f96a22744582d85c0d832ba2b949f010cc9e9aeac7b3", func := "transhumance/transhumancelaw11.RingParts", spec := "ringParts", apart := false }
def RingPartsSaid : Prop := ringPartsRow.holds Try.pinned (OpenSpec.ofChange ringPartsSpec)

/-- ITS FALSE NEIGHBOUR: 'it returns false'. Refute it at one input. -/
def ringPartsWrong : ChangeSpec := { name := "ringParts", fn := fun _ => fun
  | [d1, d2, d3] => { results := [.lit (.bool false)], args := [d1, d2, d3] }
  | _ => none }
def RingPartsWrongFalsely : Prop := ringPartsRow.holds Try.pinned (OpenSpec.ofChange ringPartsWrong)

/-- 'transhumancelaw11.RingRound': WHATEVER THE INPUT: true; the input reads as it did. -/
def ringRoundSpec : ChangeSpec := { name := "ringRound", fn := fun _ => fun
  | [d1, d2] => { results := [.lit (.bool true)], args := [d1, d2] }
  | _ => none }
def ringRoundRow : OpenClaim := { program := "ytclfpfdpaigdiaa", sum := "b8e5df95498dd794ace2f96a22744582d85c0d832ba2b949f010cc9e9aeac7b3", func := "transhumance/transhumancelaw11.RingRound", spec := "ringRound", apart := false }
def RingRoundSaid : Prop := ringRoundRow.holds Try.pinned (OpenSpec.ofChange ringRoundSpec)

/-- ITS FALSE NEIGHBOUR: 'it returns false'. Refute it at one input. -/
def ringRoundWrong : ChangeSpec := { name := "ringRound", fn := fun _ => fun
  | [d1, d2] => { results := [.lit (.bool false)], args := [d1, d2] }
  | _ => none }
def RingRoundWrongFalsely : Prop := ringRoundRow.holds Try.pinned (OpenSpec.ofChange ringRoundWrong)

/-- 'transhumancelaw11.RingHalf': WHATEVER THE INPUT: true; the input reads as it did. -/
def ringHalfSpec : ChangeSpec := { name := "ringHalf", fn := fun _ => fun
  | [d] => { results := [.lit (.bool true)], args := [d] }
  | _ => none }
def ringHalfRow : OpenClaim := { program := "ytclfpfdpaigdiaa", sum := "b8e5df95498dd794ace2f96a22744582d85c0d832ba2b949f010cc9e9aeac7b3", func := "transhumance/transhumancelaw11.RingHalf", spec := "ringHalf", apart := false }
def RingHalfSaid : Prop := ringHalfRow.holds Try.pinned (OpenSpec.ofChange ringHalfSpec)

/-- ITS FALSE NEIGHBOUR: 'it returns false'. Refute it at one input. -/
def ringHalfWrong : ChangeSpec := { name := "ringHalf", fn := fun _ => fun
  | [d] => { results := [.lit (.bool false)], args := [d] }
  | _ => none }
def RingHalfWrongFalsely : Prop := ringHalfRow.holds Try.pinned (OpenSpec.ofChange ringHalfWrong)

/- THE SECOND FORM. 'bulk': how many values and letters a reading holds, each counted each time it is reached (what is shared counts as often as it is met; a slice's spare places count too). A statement '..UptoSaid' is the law's where the arguments, and the package variables that the reading takes, are together of bulk at most 1048576: NARROWER than '..Said'. Prove '..Said' where nothing that the law and all that it calls make is longer than what came in: it says more and counts as full. Else prove '..UptoSaid'. A law counts once. -/
mutual
def uptoBulk {H : Type} : DataW H → Nat
  | .lit (.string bytes) => bytes.length + 1
  | .lit _ => 1
  | .nil => 1
  | .ptr d => uptoBulk d + 1
  | .slice elems spare => uptoBulkAll elems + uptoBulkAll spare + 1
  | .agg parts => uptoBulkAll parts + 1
  | .iface _ d => uptoBulk d + 1
  | .map entries => uptoBulkEntries entries + 1
  | .held _ => 1
def uptoBulkAll {H : Type} : List (DataW H) → Nat
  | [] => 0
  | d :: r => uptoBulk d + uptoBulkAll r
def uptoBulkEntries {H : Type} : List (Lit × DataW H) → Nat
  | [] => 0
  | x :: r => uptoBulkEntry x + uptoBulkEntries r
def uptoBulkEntry {H : Type} : Lit × DataW H → Nat
  | (.string bytes, d) => bytes.length + uptoBulk d + 1
  | (_, d) => uptoBulk d + 1
 end
def uptoSmall : (H : Type) → List (DataW H) → Bool := fun _ ds => decide (uptoBulkAll ds ≤ 1048576)
def OpenSpec.upto (s : _root_.Go.ChangeSpec) : _root_.Go.OpenSpec := { _root_.Go.OpenSpec.ofChange s with cond := some uptoSmall }

/-- 'transhumancelaw11.RingTells', WHERE WHAT IT READS IS OF BULK AT MOST 1048576: true; the input reads as it did. -/
def ringTellsUptoRow : OpenClaim := { program := "ytclfpfdpaigdiaa", sum := "b8e5df95498dd794ace2f96a22744582d85c0d832ba2b949f010cc9e9aeac7b3", func := "transhumance/transhumancelaw11.RingTells", spec := "ringTells", apart := false, narrowed := true }
def RingTellsUptoSaid : Prop := ringTellsUptoRow.holds Try.pinned (OpenSpec.upto ringTellsSpec)

/-- 'transhumancelaw11.RingList', WHERE WHAT IT READS IS OF BULK AT MOST 1048576: true; the input reads as it did. -/
def ringListUptoRow : OpenClaim := { program := "ytclfpfdpaigdiaa", sum := "b8e5df95498dd794ace2f96a22744582d85c0d832ba2b949f010cc9e9aeac7b3", func := "transhumance/transhumancelaw11.RingList", spec := "ringList", apart := false, narrowed := true }
def RingListUptoSaid : Prop := ringListUptoRow.holds Try.pinned (OpenSpec.upto ringListSpec)

/-- 'transhumancelaw11.RingEnds', WHERE WHAT IT READS IS OF BULK AT MOST 1048576: true; the input reads as it did. -/
def ringEndsUptoRow : OpenClaim := { program := "ytclfpfdpaigdiaa", sum := "b8e5df95498dd794ace2f96a22744582d85c0d832ba2b949f010cc9e9aeac7b3", func := "transhumance/transhumancelaw11.RingEnds", spec := "ringEnds", apart := false, narrowed := true }
def RingEndsUptoSaid : Prop := ringEndsUptoRow.holds Try.pinned (OpenSpec.upto ringEndsSpec)

/-- 'transhumancelaw11.RingParts', WHERE WHAT IT READS IS OF BULK AT MOST 1048576: true; the input reads as it did. -/
def ringPartsUptoRow : OpenClaim := { program := "ytclfpfdpaigdiaa", sum := "b8e5df95498dd794ace2f96a22744582d85c0d832ba2b949f010cc9e9aeac7b3", func := "transhumance/transhumancelaw11.RingParts", spec := "ringParts", apart := false, narrowed := true }
def RingPartsUptoSaid : Prop := ringPartsUptoRow.holds Try.pinned (OpenSpec.upto ringPartsSpec)

/-- 'transhumancelaw11.RingRound', WHERE WHAT IT READS IS OF BULK AT MOST 1048576: true; the input reads as it did. -/
def ringRoundUptoRow : OpenClaim := { program := "ytclfpfdpaigdiaa", sum := "b8e5df95498dd794ace2f96a22744582d85c0d832ba2b949f010cc9e9aeac7b3", func := "transhumance/transhumancelaw11.RingRound", spec := "ringRound", apart := false, narrowed := true }
def RingRoundUptoSaid : Prop := ringRoundUptoRow.holds Try.pinned (OpenSpec.upto ringRoundSpec)

/-- 'transhumancelaw11.RingHalf', WHERE WHAT IT READS IS OF BULK AT MOST 1048576: true; the input reads as it did. -/
def ringHalfUptoRow : OpenClaim := { program := "ytclfpfdpaigdiaa", sum := "b8e5df95498dd794ace2f96a22744582d85c0d832ba2b949f010cc9e9aeac7b3", func := "transhumance/transhumancelaw11.RingHalf", spec := "ringHalf", apart := false, narrowed := true }
def RingHalfUptoSaid : Prop := ringHalfUptoRow.holds Try.pinned (OpenSpec.upto ringHalfSpec)

end Rows
end Go.Proofs.Ytclfpfdpaigdiaa
