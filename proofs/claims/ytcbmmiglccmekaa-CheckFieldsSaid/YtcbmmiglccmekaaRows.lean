/-
  No cell of these rows narrows 'for every input' (looked for: loops, veiled, ifaces, maps, wideKeys, modest, calm, conditions, laid).
  DERIVED. THE GIVEN ROWS OF THIS SEAT. 6 by the template 'for every input the law returns true; each argument reads behind the call as it read before'; 0 by the template 'total and deterministic' (their statements: YtcbmmiglccmekaaTotals.lean).
  GIVEN WITH THE SEED: the statements are not yours to turn. If you find one false, say at which input.
  Laid BY PROGRAM, IN A SANDBOX (cutbox-rows.mjs): the forced cells as the released guide's own fill.sh prints them over the translation 3e7216da3767829a… (all of the seat's roots in one cut). By AI agents, Wed Nov 11 2026. No macro, syntax, notation, axiom, sorry.
-/
import Derived.Test.YtcbmmiglccmekaaChecked
import GoSem.Claim
import GoSem.ClaimJoined
import GoSem.ClaimMapViews
import Derived.JoinedTies
import Derived.KernelRfl
namespace Go.Proofs.Ytcbmmiglccmekaa
/- THE CELL 'sum', in the pinned program and in every row, IS THE sha256 OF THE DUMP (.gsa) THAT YtcbmmiglccmekaaProg.lean LOADS. Nothing in Lean hashes anything: it is a label: what it is worth is what the hold of that sum in a sandbox is worth. -/
noncomputable def Try.pinned : Pinned := { name := "ytcbmmiglccmekaa", sum := "3e7216da3767829a867c164b721af581bc4c8d2a9b82c39eea571c5a5215a400", checked := Try.checked }
namespace Rows
def none {H : Type} : Left H := { results := [], args := [] }

/-- 'transhumancelaw08.CheckTells': WHATEVER THE INPUT: true; the input reads as it did. -/
def checkTellsSpec : ChangeSpec := { name := "checkTells", fn := fun _ => fun
  | [d1, d2] => { results := [.lit (.bool true)], args := [d1, d2] }
  | _ => none }
def checkTellsRow : OpenClaim := { program := "ytcbmmiglccmekaa", sum := "3e7216da3767829a867c164b721af581bc4c8d2a9b82c39eea571c5a5215a400", func := "transhumance/transhumancelaw08.CheckTells", spec := "checkTells", unfollowed := true, recurses := true, apart := false }
def CheckTellsSaid : Prop := checkTellsRow.holds Try.pinned (OpenSpec.ofChange checkTellsSpec)

/-- ITS FALSE NEIGHBOUR: 'it returns false'. Refute it at one input. -/
def checkTellsWrong : ChangeSpec := { name := "checkTells", fn := fun _ => fun
  | [d1, d2] => { results := [.lit (.bool false)], args := [d1, d2] }
  | _ => none }
def CheckTellsWrongFalsely : Prop := checkTellsRow.holds Try.pinned (OpenSpec.ofChange checkTellsWrong)

/-- 'transhumancelaw08.CheckSafe': WHATEVER THE INPUT: true; the input reads as it did. -/
def checkSafeSpec : ChangeSpec := { name := "checkSafe", fn := fun _ => fun
  | [d1, d2] => { results := [.lit (.bool true)], args := [d1, d2] }
  | _ => none }
def checkSafeRow : OpenClaim := { program := "ytcbmmiglccmekaa", sum := "3e7216da3767829a867c164b721af581bc4c8d2a9b82c39eea571c5a5215a400", func := "transhumance/transhumancelaw08.CheckSafe", spec := "checkSafe", unfollowed := true, recurses := true, apart := false }
def CheckSafeSaid : Prop := checkSafeRow.holds Try.pinned (OpenSpec.ofChange checkSafeSpec)

/-- ITS FALSE NEIGHBOUR: 'it returns false'. Refute it at one input. -/
def checkSafeWrong : ChangeSpec := { name := "checkSafe", fn := fun _ => fun
  | [d1, d2] => { results := [.lit (.bool false)], args := [d1, d2] }
  | _ => none }
def CheckSafeWrongFalsely : Prop := checkSafeRow.holds Try.pinned (OpenSpec.ofChange checkSafeWrong)

/-- 'transhumancelaw08.CheckReach': WHATEVER THE INPUT: true; the input reads as it did. -/
def checkReachSpec : ChangeSpec := { name := "checkReach", fn := fun _ => fun
  | [d1, d2] => { results := [.lit (.bool true)], args := [d1, d2] }
  | _ => none }
def checkReachRow : OpenClaim := { program := "ytcbmmiglccmekaa", sum := "3e7216da3767829a867c164b721af581bc4c8d2a9b82c39eea571c5a5215a400", func := "transhumance/transhumancelaw08.CheckReach", spec := "checkReach", unfollowed := true, recurses := true, apart := false }
def CheckReachSaid : Prop := checkReachRow.holds Try.pinned (OpenSpec.ofChange checkReachSpec)

/-- ITS FALSE NEIGHBOUR: 'it returns false'. Refute it at one input. -/
def checkReachWrong : ChangeSpec := { name := "checkReach", fn := fun _ => fun
  | [d1, d2] => { results := [.lit (.bool false)], args := [d1, d2] }
  | _ => none }
def CheckReachWrongFalsely : Prop := checkReachRow.holds Try.pinned (OpenSpec.ofChange checkReachWrong)

/-- 'transhumancelaw08.CheckMore': WHATEVER THE INPUT: true; the input reads as it did. -/
def checkMoreSpec : ChangeSpec := { name := "checkMore", fn := fun _ => fun
  | [d1, d2] => { results := [.lit (.bool true)], args := [d1, d2] }
  | _ => none }
def checkMoreRow : OpenClaim := { program := "ytcbmmiglccmekaa", sum := "3e7216da3767829a867c164b721af581bc4c8d2a9b82c39eea571c5a5215a400", func := "transhumance/transhumancelaw08.CheckMore", spec := "checkMore", unfollowed := true, recurses := true, apart := false }
def CheckMoreSaid : Prop := checkMoreRow.holds Try.pinned (OpenSpec.ofChange checkMoreSpec)

/-- ITS FALSE NEIGHBOUR: 'it returns false'. Refute it at one input. -/
def checkMoreWrong : ChangeSpec := { name := "checkMore", fn := fun _ => fun
  | [d1, d2] => { results := [.lit (.bool false)], args := [d1, d2] }
  | _ => none }
def CheckMoreWrongFalsely : Prop := checkMoreRow.holds Try.pinned (OpenSpec.ofChange checkMoreWrong)

/-- 'transhumancelaw08.CheckFields': WHATEVER THE INPUT: true; the input reads as it did. -/
def checkFieldsSpec : ChangeSpec := { name := "checkFields", fn := fun _ => fun
  | [d1, d2, d3] => { results := [.lit (.bool true)], args := [d1, d2, d3] }
  | _ => none }
def checkFieldsRow : OpenClaim := { program := "ytcbmmiglccmekaa", sum := "3e7216da3767829a867c164b721af581bc4c8d2a9b82c39eea571c5a5215a400", func := "transhumance/transhumancelaw08.CheckFields", spec := "checkFields", unfollowed := true, recurses := true, apart := false }
def CheckFieldsSaid : Prop := checkFieldsRow.holds Try.pinned (OpenSpec.ofChange checkFieldsSpec)

/-- ITS FALSE NEIGHBOUR: 'it returns false'. Refute it at one input. -/
def checkFieldsWrong : ChangeSpec := { name := "checkFields", fn := fun _ => fun
  | [d1, d2, d3] => { results := [.lit (.bool false)], args := [d1, d2, d3] }
  | _ => none }
def CheckFieldsWrongFalsely : Prop := checkFieldsRow.holds Try.pinned (OpenSpec.ofChange checkFieldsWrong)

/-- 'transhumancelaw08.CheckTail': WHATEVER THE INPUT: true; the input reads as it did. -/
def checkTailSpec : ChangeSpec := { name := "checkTail", fn := fun _ => fun
  | [d1, d2] => { results := [.lit (.bool true)], args := [d1, d2] }
  | _ => none }
def checkTailRow : OpenClaim := { program := "ytcbmmiglccmekaa", sum := "3e7216da3767829a867c164b721af581bc4c8d2a9b82c39eea571c5a5215a400", func := "transhumance/transhumancelaw08.CheckTail", spec := "checkTail", unfollowed := true, recurses := true, apart := false }
def CheckTailSaid : Prop := checkTailRow.holds Try.pinned (OpenSpec.ofChange checkTailSpec)

/-- ITS FALSE NEIGHBOUR: 'it returns false'. Refute it at one input. -/
def checkTailWrong : ChangeSpec := { name := "checkTail", fn := fun _ => fun
  | [d1, d2] => { results := [.lit (.bool false)], args := [d1, d2] }
  | _ => none }
def CheckTailWrongFalsely : Prop := checkTailRow.holds Try.pinned (OpenSpec.ofChange checkTailWrong)

/- THE SECOND FORM. 'bulk': how many values and letters a reading holds, each counted each time it is reached (what is shared counts as often as it is met; a slice's spare places count too). A statement '..UptoSaid' is the law's where the arguments, and the package variables that the reading takes, are together of bulk at most 1048576: NARROWER than '..Said'. Prove '..Said' where nothing that the law and all that it calls make is longer than what came in: it says more and counts as full. Else prove '..UptoSaid'. A law counts once. -/
mutual
def uptoBulk {H : Type} : DataW H → Nat
  | .lit (.string bytes) => bytes.length + 1
  | .lit _ => 1
  | .nil => 1
  | .ptr d => uptoBulk d + 1
  | .slice elems spare => uptoBulkAll elems + uptoBulkAll spare + 1
  | .agg parts => uptoBulkAll parts + 1
  | .iface _ d => uptoBulk d + 1
  | .map entries => uptoBulkEntries entries + 1
  | .held _ => 1
def uptoBulkAll {H : Type} : List (DataW H) → Nat
  | [] => 0
  | d :: r => uptoBulk d + uptoBulkAll r
def uptoBulkEntries {H : Type} : List (Lit × DataW H) → Nat
  | [] => 0
  | x :: r => uptoBulkEntry x + uptoBulkEntries r
def uptoBulkEntry {H : Type} : Lit × DataW H → Nat
  | (.string bytes, d) => bytes.length + uptoBulk d + 1
  | (_, d) => uptoBulk d + 1
 end
def uptoSmall : (H : Type) → List (DataW H) → Bool := fun _ ds => decide (uptoBulkAll ds ≤ 1048576)
def OpenSpec.upto (s : _root_.Go.ChangeSpec) : _root_.Go.OpenSpec := { _root_.Go.OpenSpec.ofChange s with cond := some uptoSmall }

/-- 'transhumancelaw08.CheckTells', WHERE WHAT IT READS IS OF BULK AT MOST 1048576: true; the input reads as it did. -/
def checkTellsUptoRow : OpenClaim := { program := "ytcbmmiglccmekaa", sum := "3e7216da3767829a867c164b721af581bc4c8d2a9b82c39eea571c5a5215a400", func := "transhumance/transhumancelaw08.CheckTells", spec := "checkTells", unfollowed := true, recurses := true, apart := false, narrowed := true }
def CheckTellsUptoSaid : Prop := checkTellsUptoRow.holds Try.pinned (OpenSpec.upto checkTellsSpec)

/-- 'transhumancelaw08.CheckSafe', WHERE WHAT IT READS IS OF BULK AT MOST 1048576: true; the input reads as it did. -/
def checkSafeUptoRow : OpenClaim := { program := "ytcbmmiglccmekaa", sum := "3e7216da3767829a867c164b721af581bc4c8d2a9b82c39eea571c5a5215a400", func := "transhumance/transhumancelaw08.CheckSafe", spec := "checkSafe", unfollowed := true, recurses := true, apart := false, narrowed := true }
def CheckSafeUptoSaid : Prop := checkSafeUptoRow.holds Try.pinned (OpenSpec.upto checkSafeSpec)

/-- 'transhumancelaw08.CheckReach', WHERE WHAT IT READS IS OF BULK AT MOST 1048576: true; the input reads as it did. -/
def checkReachUptoRow : OpenClaim := { program := "ytcbmmiglccmekaa", sum := "3e7216da3767829a867c164b721af581bc4c8d2a9b82c39eea571c5a5215a400", func := "transhumance/transhumancelaw08.CheckReach", spec := "checkReach", unfollowed := true, recurses := true, apart := false, narrowed := true }
def CheckReachUptoSaid : Prop := checkReachUptoRow.holds Try.pinned (OpenSpec.upto checkReachSpec)

/-- 'transhumancelaw08.CheckMore', WHERE WHAT IT READS IS OF BULK AT MOST 1048576: true; the input reads as it did. -/
def checkMoreUptoRow : OpenClaim := { program := "ytcbmmiglccmekaa", sum := "3e7216da3767829a867c164b721af581bc4c8d2a9b82c39eea571c5a5215a400", func := "transhumance/transhumancelaw08.CheckMore", spec := "checkMore", unfollowed := true, recurses := true, apart := false, narrowed := true }
def CheckMoreUptoSaid : Prop := checkMoreUptoRow.holds Try.pinned (OpenSpec.upto checkMoreSpec)

/-- 'transhumancelaw08.CheckFields', WHERE WHAT IT READS IS OF BULK AT MOST 1048576: true; the input reads as it did. -/
def checkFieldsUptoRow : OpenClaim := { program := "ytcbmmiglccmekaa", sum := "3e7216da3767829a867c164b721af581bc4c8d2a9b82c39eea571c5a5215a400", func := "transhumance/transhumancelaw08.CheckFields", spec := "checkFields", unfollowed := true, recurses := true, apart := false, narrowed := true }
def CheckFieldsUptoSaid : Prop := checkFieldsUptoRow.holds Try.pinned (OpenSpec.upto checkFieldsSpec)

/-- 'transhumancelaw08.CheckTail', WHERE WHAT IT READS IS OF BULK AT MOST 1048576: true; the input reads as it did. -/
def checkTailUptoRow : OpenClaim := { program := "ytcbmmiglccmekaa", sum := "3e7216da3767829a867c164b721af581bc4c8d2a9b82c39eea571c5a5215a400", func := "transhumance/transhumancelaw08.CheckTail", spec := "checkTail", unfollowed := true, recurses := true, apart := false, narrowed := true }
def CheckTailUptoSaid : Prop := checkTailUptoRow.holds Try.pinned (OpenSpec.upto checkTailSpec)

end Rows
end Go.Proofs.Ytcbmmiglccmekaa
