/-
  No cell of these rows narrows 'for every input' (looked for: loops, veiled, ifaces, maps, wideKeys, modest, calm, conditions, laid).
  DERIVED. THE GIVEN ROWS OF THIS SEAT. 4 by the template 'for every input the law returns true; each argument reads behind the call as it read before'; 0 by the template 'total and deterministic' (their statements: YtghidjgejmmcmaaTotals.lean).
  GIVEN WITH THE SEED: the statements are not yours to turn. If you find one false, say at which input.
  Laid BY PROGRAM, IN A SANDBOX (cutbox-rows.mjs): the forced cells as the released guide's own fill.sh prints them over the translation 8bb573ef57cf0773… (all of the seat's roots in one cut). By AI agents, Wed Nov 11 2026. No macro, syntax, notation, axiom, sorry.
-/
import Derived.Test.YtghidjgejmmcmaaChecked
import GoSem.Claim
import GoSem.ClaimJoined
import GoSem.ClaimMapViews
import Derived.JoinedTies
import Derived.KernelRfl
namespace Go.Proofs.Ytghidjgejmmcmaa
/- THE CELL 'sum', in the pinned program and in every row, IS THE sha256 OF THE DUMP (.gsa) THAT YtghidjgejmmcmaaProg.lean LOADS. Nothing in Lean hashes anything: it is a label: what it is worth is what the hold of that sum in a sandbox is worth. -/
noncomputable def Try.pinned : Pinned := { name := "ytghidjgejmmcmaa", sum := "8bb573ef57cf07737ff7589450c6fe189db1ebec3cd46b256174b3984e1d68b4", checked := Try.checked }
namespace Rows
def none {H : Type} : Left H := { results := [], args := [] }

/-- 'transhumancelaw09.FrameSafe': WHATEVER THE INPUT: true; the input reads as it did. -/
def frameSafeSpec : ChangeSpec := { name := "frameSafe", fn := fun _ => fun
  | [d1, d2, d3] => { results := [.lit (.bool true)], args := [d1, d2, d3] }
  | _ => none }
def frameSafeRow : OpenClaim := { program := "ytghidjgejmmcmaa", sum := "8bb573ef57cf07737ff7589450c6fe189db1ebec3cd46b256174b3984e1d68b4", func := "transhumance/transhumancelaw09.FrameSafe", spec := "frameSafe", unfollowed := true, recurses := true, apart := false }
def FrameSafeSaid : Prop := frameSafeRow.holds Try.pinned (OpenSpec.ofChange frameSafeSpec)

/-- ITS FALSE NEIGHBOUR: 'it returns false'. Refute it at one input. -/
def frameSafeWrong : ChangeSpec := { name := "frameSafe", fn := fun _ => fun
  | [d1, d2, d3] => { results := [.lit (.bool false)], args := [d1, d2, d3] }
  | _ => none }
def FrameSafeWrongFalsely : Prop := frameSafeRow.holds Try.pinned (OpenSpec.ofChange frameSafeWrong)

/-- 'transhumancelaw09.FrameStill': WHATEVER THE INPUT: true; the input reads as it did. -/
def frameStillSpec : ChangeSpec := { name := "frameStill", fn := fun _ => fun
  | [d1, d2] => { results := [.lit (.bool true)], args := [d1, d2] }
  | _ => none }
def frameStillRow : OpenClaim := { program := "ytghidjgejmmcmaa", sum := "8bb573ef57cf07737ff7589450c6fe189db1ebec3cd46b256174b3984e1d68b4", func := "transhumance/transhumancelaw09.FrameStill", spec := "frameStill", unfollowed := true, recurses := true, apart := false }
def FrameStillSaid : Prop := frameStillRow.holds Try.pinned (OpenSpec.ofChange frameStillSpec)

/-- ITS FALSE NEIGHBOUR: 'it returns false'. Refute it at one input. -/
def frameStillWrong : ChangeSpec := { name := "frameStill", fn := fun _ => fun
  | [d1, d2] => { results := [.lit (.bool false)], args := [d1, d2] }
  | _ => none }
def FrameStillWrongFalsely : Prop := frameStillRow.holds Try.pinned (OpenSpec.ofChange frameStillWrong)

/-- 'transhumancelaw09.FrameGives': WHATEVER THE INPUT: true; the input reads as it did. -/
def frameGivesSpec : ChangeSpec := { name := "frameGives", fn := fun _ => fun
  | [d1, d2, d3] => { results := [.lit (.bool true)], args := [d1, d2, d3] }
  | _ => none }
def frameGivesRow : OpenClaim := { program := "ytghidjgejmmcmaa", sum := "8bb573ef57cf07737ff7589450c6fe189db1ebec3cd46b256174b3984e1d68b4", func := "transhumance/transhumancelaw09.FrameGives", spec := "frameGives", unfollowed := true, recurses := true, apart := false }
def FrameGivesSaid : Prop := frameGivesRow.holds Try.pinned (OpenSpec.ofChange frameGivesSpec)

/-- ITS FALSE NEIGHBOUR: 'it returns false'. Refute it at one input. -/
def frameGivesWrong : ChangeSpec := { name := "frameGives", fn := fun _ => fun
  | [d1, d2, d3] => { results := [.lit (.bool false)], args := [d1, d2, d3] }
  | _ => none }
def FrameGivesWrongFalsely : Prop := frameGivesRow.holds Try.pinned (OpenSpec.ofChange frameGivesWrong)

/-- 'transhumancelaw09.FrameJoins': WHATEVER THE INPUT: true; the input reads as it did. -/
def frameJoinsSpec : ChangeSpec := { name := "frameJoins", fn := fun _ => fun
  | [d1, d2] => { results := [.lit (.bool true)], args := [d1, d2] }
  | _ => none }
def frameJoinsRow : OpenClaim := { program := "ytghidjgejmmcmaa", sum := "8bb573ef57cf07737ff7589450c6fe189db1ebec3cd46b256174b3984e1d68b4", func := "transhumance/transhumancelaw09.FrameJoins", spec := "frameJoins", unfollowed := true, recurses := true, apart := false }
def FrameJoinsSaid : Prop := frameJoinsRow.holds Try.pinned (OpenSpec.ofChange frameJoinsSpec)

/-- ITS FALSE NEIGHBOUR: 'it returns false'. Refute it at one input. -/
def frameJoinsWrong : ChangeSpec := { name := "frameJoins", fn := fun _ => fun
  | [d1, d2] => { results := [.lit (.bool false)], args := [d1, d2] }
  | _ => none }
def FrameJoinsWrongFalsely : Prop := frameJoinsRow.holds Try.pinned (OpenSpec.ofChange frameJoinsWrong)

/- THE SECOND FORM. 'bulk': how many values and letters a reading holds, each counted each time it is reached (what is shared counts as often as it is met; a slice's spare places count too). A statement '..UptoSaid' is the law's where the arguments, and the package variables that the reading takes, are together of bulk at most 1048576: NARROWER than '..Said'. Prove '..Said' where nothing that the law and all that it calls make is longer than what came in: it says more and counts as full. Else prove '..UptoSaid'. A law counts once. -/
mutual
def uptoBulk {H : Type} : DataW H → Nat
  | .lit (.string bytes) => bytes.length + 1
  | .lit _ => 1
  | .nil => 1
  | .ptr d => uptoBulk d + 1
  | .slice elems spare => uptoBulkAll elems + uptoBulkAll spare + 1
  | .agg parts => uptoBulkAll parts + 1
  | .iface _ d => uptoBulk d + 1
  | .map entries => uptoBulkEntries entries + 1
  | .held _ => 1
def uptoBulkAll {H : Type} : List (DataW H) → Nat
  | [] => 0
  | d :: r => uptoBulk d + uptoBulkAll r
def uptoBulkEntries {H : Type} : List (Lit × DataW H) → Nat
  | [] => 0
  | x :: r => uptoBulkEntry x + uptoBulkEntries r
def uptoBulkEntry {H : Type} : Lit × DataW H → Nat
  | (.string bytes, d) => bytes.length + uptoBulk d + 1
  | (_, d) => uptoBulk d + 1
 end
def uptoSmall : (H : Type) → List (DataW H) → Bool := fun _ ds => decide (uptoBulkAll ds ≤ 1048576)
def OpenSpec.upto (s : _root_.Go.ChangeSpec) : _root_.Go.OpenSpec := { _root_.Go.OpenSpec.ofChange s with cond := some uptoSmall }

/-- 'transhumancelaw09.FrameSafe', WHERE WHAT IT READS IS OF BULK AT MOST 1048576: true; the input reads as it did. -/
def frameSafeUptoRow : OpenClaim := { program := "ytghidjgejmmcmaa", sum := "8bb573ef57cf07737ff7589450c6fe189db1ebec3cd46b256174b3984e1d68b4", func := "transhumance/transhumancelaw09.FrameSafe", spec := "frameSafe", unfollowed := true, recurses := true, apart := false, narrowed := true }
def FrameSafeUptoSaid : Prop := frameSafeUptoRow.holds Try.pinned (OpenSpec.upto frameSafeSpec)

/-- 'transhumancelaw09.FrameStill', WHERE WHAT IT READS IS OF BULK AT MOST 1048576: true; the input reads as it did. -/
def frameStillUptoRow : OpenClaim := { program := "ytghidjgejmmcmaa", sum := "8bb573ef57cf07737ff7589450c6fe189db1ebec3cd46b256174b3984e1d68b4", func := "transhumance/transhumancelaw09.FrameStill", spec := "frameStill", unfollowed := true, recurses := true, apart := false, narrowed := true }
def FrameStillUptoSaid : Prop := frameStillUptoRow.holds Try.pinned (OpenSpec.upto frameStillSpec)

/-- 'transhumancelaw09.FrameGives', WHERE WHAT IT READS IS OF BULK AT MOST 1048576: true; the input reads as it did. -/
def frameGivesUptoRow : OpenClaim := { program := "ytghidjgejmmcmaa", sum := "8bb573ef57cf07737ff7589450c6fe189db1ebec3cd46b256174b3984e1d68b4", func := "transhumance/transhumancelaw09.FrameGives", spec := "frameGives", unfollowed := true, recurses := true, apart := false, narrowed := true }
def FrameGivesUptoSaid : Prop := frameGivesUptoRow.holds Try.pinned (OpenSpec.upto frameGivesSpec)

/-- 'transhumancelaw09.FrameJoins', WHERE WHAT IT READS IS OF BULK AT MOST 1048576: true; the input reads as it did. -/
def frameJoinsUptoRow : OpenClaim := { program := "ytghidjgejmmcmaa", sum := "8bb573ef57cf07737ff7589450c6fe189db1ebec3cd46b256174b3984e1d68b4", func := "transhumance/transhumancelaw09.FrameJoins", spec := "frameJoins", unfollowed := true, recurses := true, apart := false, narrowed := true }
def FrameJoinsUptoSaid : Prop := frameJoinsUptoRow.holds Try.pinned (OpenSpec.upto frameJoinsSpec)

end Rows
end Go.Proofs.Ytghidjgejmmcmaa
