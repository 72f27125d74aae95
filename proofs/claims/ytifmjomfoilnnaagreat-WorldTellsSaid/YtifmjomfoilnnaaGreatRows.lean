/-
  No cell of these rows narrows 'for every input' (looked for: loops, veiled, ifaces, maps, wideKeys, modest, calm, conditions, laid).
  DERIVED. THE GIVEN ROWS OF THIS SEAT. 5 by the template 'for every input the law returns true; each argument reads behind the call as it read before'; 0 by the template 'total and deterministic' (their statements: YtifmjomfoilnnaaGreatTotals.lean).
  GIVEN WITH THE SEED: the statements are not yours to turn. If you find one false, say at which input.
  Laid BY PROGRAM, IN A SANDBOX (cutbox-rows.mjs): the forced cells as the released guide's own fill.sh prints them over the translation 15a9b4cccb0c5fcb… (all of the seat's roots in one cut). By AI agents, Wed Nov 11 2026. No macro, syntax, notation, axiom, sorry.
-/
import Derived.Test.YtifmjomfoilnnaaGreatChecked
import GoSem.Claim
import GoSem.ClaimJoined
import GoSem.ClaimMapViews
import Derived.JoinedTies
import Derived.KernelRfl
namespace Go.Proofs.YtifmjomfoilnnaaGreat
/- THE CELL 'sum', in the pinned program and in every row, IS THE sha256 OF THE DUMP (.gsa) THAT YtifmjomfoilnnaaGreatProg.lean LOADS. Nothing in Lean hashes anything: it is a label: what it is worth is what the hold of that sum in a sandbox is worth. -/
noncomputable def Tryz.pinned : Pinned := { name := "ytifmjomfoilnnaagreat", sum := "15a9b4cccb0c5fcb9739c62f38233009b2e4ad5d10d388d8a802928f708155e3", checked := Tryz.checked }
namespace Rows
def none {H : Type} : Left H := { results := [], args := [] }

/-- 'transhumancelaw13.WorldTells': WHATEVER THE INPUT: true; the input reads as it did. -/
def worldTellsSpec : ChangeSpec := { name := "worldTells", fn := fun _ => fun
  | [d1, d2, d3] => { results := [.lit (.bool true)], args := [d1, d2, d3] }
  | _ => none }
def worldTellsRow : OpenClaim := { program := "ytifmjomfoilnnaagreat", sum := "15a9b4cccb0c5fcb9739c62f38233009b2e4ad5d10d388d8a802928f708155e3", func := "transhumance/transhumancelaw13.WorldTells", spec := "worldTells", unfollowed := true, recurses := true, apart := false }
def WorldTellsSaid : Prop := worldTellsRow.holds Tryz.pinned (OpenSpec.ofChange worldTellsSpec)

/-- ITS FALSE NEIGHBOUR: 'it returns false'. Refute it at one input. -/
def worldTellsWrong : ChangeSpec := { name := "worldTells", fn := fun _ => fun
  | [d1, d2, d3] => { results := [.lit (.bool false)], args := [d1, d2, d3] }
  | _ => none }
def WorldTellsWrongFalsely : Prop := worldTellsRow.holds Tryz.pinned (OpenSpec.ofChange worldTellsWrong)

/-- 'transhumancelaw13.WorldNew': WHATEVER THE INPUT: true; the input reads as it did. -/
def worldNewSpec : ChangeSpec := { name := "worldNew", fn := fun _ => fun
  | [d] => { results := [.lit (.bool true)], args := [d] }
  | _ => none }
def worldNewRow : OpenClaim := { program := "ytifmjomfoilnnaagreat", sum := "15a9b4cccb0c5fcb9739c62f38233009b2e4ad5d10d388d8a802928f708155e3", func := "transhumance/transhumancelaw13.WorldNew", spec := "worldNew", unfollowed := true, recurses := true, apart := false }
def WorldNewSaid : Prop := worldNewRow.holds Tryz.pinned (OpenSpec.ofChange worldNewSpec)

/-- ITS FALSE NEIGHBOUR: 'it returns false'. Refute it at one input. -/
def worldNewWrong : ChangeSpec := { name := "worldNew", fn := fun _ => fun
  | [d] => { results := [.lit (.bool false)], args := [d] }
  | _ => none }
def WorldNewWrongFalsely : Prop := worldNewRow.holds Tryz.pinned (OpenSpec.ofChange worldNewWrong)

/-- 'transhumancelaw13.WorldReady': WHATEVER THE INPUT: true; the input reads as it did. -/
def worldReadySpec : ChangeSpec := { name := "worldReady", fn := fun _ => fun
  | [d1, d2] => { results := [.lit (.bool true)], args := [d1, d2] }
  | _ => none }
def worldReadyRow : OpenClaim := { program := "ytifmjomfoilnnaagreat", sum := "15a9b4cccb0c5fcb9739c62f38233009b2e4ad5d10d388d8a802928f708155e3", func := "transhumance/transhumancelaw13.WorldReady", spec := "worldReady", unfollowed := true, recurses := true, apart := false }
def WorldReadySaid : Prop := worldReadyRow.holds Tryz.pinned (OpenSpec.ofChange worldReadySpec)

/-- ITS FALSE NEIGHBOUR: 'it returns false'. Refute it at one input. -/
def worldReadyWrong : ChangeSpec := { name := "worldReady", fn := fun _ => fun
  | [d1, d2] => { results := [.lit (.bool false)], args := [d1, d2] }
  | _ => none }
def WorldReadyWrongFalsely : Prop := worldReadyRow.holds Tryz.pinned (OpenSpec.ofChange worldReadyWrong)

/-- 'transhumancelaw13.WorldSame': WHATEVER THE INPUT: true; the input reads as it did. -/
def worldSameSpec : ChangeSpec := { name := "worldSame", fn := fun _ => fun
  | [d1, d2] => { results := [.lit (.bool true)], args := [d1, d2] }
  | _ => none }
def worldSameRow : OpenClaim := { program := "ytifmjomfoilnnaagreat", sum := "15a9b4cccb0c5fcb9739c62f38233009b2e4ad5d10d388d8a802928f708155e3", func := "transhumance/transhumancelaw13.WorldSame", spec := "worldSame", unfollowed := true, recurses := true, apart := false }
def WorldSameSaid : Prop := worldSameRow.holds Tryz.pinned (OpenSpec.ofChange worldSameSpec)

/-- ITS FALSE NEIGHBOUR: 'it returns false'. Refute it at one input. -/
def worldSameWrong : ChangeSpec := { name := "worldSame", fn := fun _ => fun
  | [d1, d2] => { results := [.lit (.bool false)], args := [d1, d2] }
  | _ => none }
def WorldSameWrongFalsely : Prop := worldSameRow.holds Tryz.pinned (OpenSpec.ofChange worldSameWrong)

/-- 'transhumancelaw13.WorldFresh': WHATEVER THE INPUT: true; the input reads as it did. -/
def worldFreshSpec : ChangeSpec := { name := "worldFresh", fn := fun _ => fun
  | [d1, d2] => { results := [.lit (.bool true)], args := [d1, d2] }
  | _ => none }
def worldFreshRow : OpenClaim := { program := "ytifmjomfoilnnaagreat", sum := "15a9b4cccb0c5fcb9739c62f38233009b2e4ad5d10d388d8a802928f708155e3", func := "transhumance/transhumancelaw13.WorldFresh", spec := "worldFresh", unfollowed := true, recurses := true, apart := false }
def WorldFreshSaid : Prop := worldFreshRow.holds Tryz.pinned (OpenSpec.ofChange worldFreshSpec)

/-- ITS FALSE NEIGHBOUR: 'it returns false'. Refute it at one input. -/
def worldFreshWrong : ChangeSpec := { name := "worldFresh", fn := fun _ => fun
  | [d1, d2] => { results := [.lit (.bool false)], args := [d1, d2] }
  | _ => none }
def WorldFreshWrongFalsely : Prop := worldFreshRow.holds Tryz.pinned (OpenSpec.ofChange worldFreshWrong)

/- THE SECOND FORM. 'bulk': how many values and letters a reading holds, each counted each time it is reached (what is shared counts as often as it is met; a slice's spare places count too). A statement '..UptoSaid' is the law's where the arguments, and the package variables that the reading takes, are together of bulk at most 1048576: NARROWER than '..Said'. Prove '..Said' where nothing that the law and all that it calls make is longer than what came in: it says more and counts as full. Else prove '..UptoSaid'. A law counts once. -/
mutual
def uptoBulk {H : Type} : DataW H → Nat
  | .lit (.string bytes) => bytes.length + 1
  | .lit _ => 1
  | .nil => 1
  | .ptr d => uptoBulk d + 1
  | .slice elems spare => uptoBulkAll elems + uptoBulkAll spare + 1
  | .agg parts => uptoBulkAll parts + 1
  | .iface _ d => uptoBulk d + 1
  | .map entries => uptoBulkEntries entries + 1
  | .held _ => 1
def uptoBulkAll {H : Type} : List (DataW H) → Nat
  | [] => 0
  | d :: r => uptoBulk d + uptoBulkAll r
def uptoBulkEntries {H : Type} : List (Lit × DataW H) → Nat
  | [] => 0
  | x :: r => uptoBulkEntry x + uptoBulkEntries r
def uptoBulkEntry {H : Type} : Lit × DataW H → Nat
  | (.string bytes, d) => bytes.length + uptoBulk d + 1
  | (_, d) => uptoBulk d + 1
 end
def uptoSmall : (H : Type) → List (DataW H) → Bool := fun _ ds => decide (uptoBulkAll ds ≤ 1048576)
def OpenSpec.upto (s : _root_.Go.ChangeSpec) : _root_.Go.OpenSpec := { _root_.Go.OpenSpec.ofChange s with cond := some uptoSmall }

/-- 'transhumancelaw13.WorldTells', WHERE WHAT IT READS IS OF BULK AT MOST 1048576: true; the input reads as it did. -/
def worldTellsUptoRow : OpenClaim := { program := "ytifmjomfoilnnaagreat", sum := "15a9b4cccb0c5fcb9739c62f38233009b2e4ad5d10d388d8a802928f708155e3", func := "transhumance/transhumancelaw13.WorldTells", spec := "worldTells", unfollowed := true, recurses := true, apart := false, narrowed := true }
def WorldTellsUptoSaid : Prop := worldTellsUptoRow.holds Tryz.pinned (OpenSpec.upto worldTellsSpec)

/-- 'transhumancelaw13.WorldNew', WHERE WHAT IT READS IS OF BULK AT MOST 1048576: true; the input reads as it did. -/
def worldNewUptoRow : OpenClaim := { program := "ytifmjomfoilnnaagreat", sum := "15a9b4cccb0c5fcb9739c62f38233009b2e4ad5d10d388d8a802928f708155e3", func := "transhumance/transhumancelaw13.WorldNew", spec := "worldNew", unfollowed := true, recurses := true, apart := false, narrowed := true }
def WorldNewUptoSaid : Prop := worldNewUptoRow.holds Tryz.pinned (OpenSpec.upto worldNewSpec)

/-- 'transhumancelaw13.WorldReady', WHERE WHAT IT READS IS OF BULK AT MOST 1048576: true; the input reads as it did. -/
def worldReadyUptoRow : OpenClaim := { program := "ytifmjomfoilnnaagreat", sum := "15a9b4cccb0c5fcb9739c62f38233009b2e4ad5d10d388d8a802928f708155e3", func := "transhumance/transhumancelaw13.WorldReady", spec := "worldReady", unfollowed := true, recurses := true, apart := false, narrowed := true }
def WorldReadyUptoSaid : Prop := worldReadyUptoRow.holds Tryz.pinned (OpenSpec.upto worldReadySpec)

/-- 'transhumancelaw13.WorldSame', WHERE WHAT IT READS IS OF BULK AT MOST 1048576: true; the input reads as it did. -/
def worldSameUptoRow : OpenClaim := { program := "ytifmjomfoilnnaagreat", sum := "15a9b4cccb0c5fcb9739c62f38233009b2e4ad5d10d388d8a802928f708155e3", func := "transhumance/transhumancelaw13.WorldSame", spec := "worldSame", unfollowed := true, recurses := true, apart := false, narrowed := true }
def WorldSameUptoSaid : Prop := worldSameUptoRow.holds Tryz.pinned (OpenSpec.upto worldSameSpec)

/-- 'transhumancelaw13.WorldFresh', WHERE WHAT IT READS IS OF BULK AT MOST 1048576: true; the input reads as it did. -/
def worldFreshUptoRow : OpenClaim := { program := "ytifmjomfoilnnaagreat", sum := "15a9b4cccb0c5fcb9739c62f38233009b2e4ad5d10d388d8a802928f708155e3", func := "transhumance/transhumancelaw13.WorldFresh", spec := "worldFresh", unfollowed := true, recurses := true, apart := false, narrowed := true }
def WorldFreshUptoSaid : Prop := worldFreshUptoRow.holds Tryz.pinned (OpenSpec.upto worldFreshSpec)

end Rows
end Go.Proofs.YtifmjomfoilnnaaGreat
