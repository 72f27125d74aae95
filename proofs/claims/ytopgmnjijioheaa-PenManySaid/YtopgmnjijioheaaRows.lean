/-
  No cell of these rows narrows 'for every input' (looked for: loops, veiled, ifaces, maps, wideKeys, modest, calm, conditions, laid).
  DERIVED. THE GIVEN ROWS OF THIS SEAT. 6 by the template 'for every input the law returns true; each argument reads behind the call as it read before'; 0 by the template 'total and deterministic' (their statements: YtopgmnjijioheaaTotals.lean).
  GIVEN WITH THE SEED: the statements are not yours to turn. If you find one false, say at which input.
  Laid BY PROGRAM, IN A SANDBOX (cutbox-rows.mjs): the forced cells as the released guide's own fill.sh prints them over the translation d984c9e3afdd04d8… (all of the seat's roots in one cut). By AI agents, Wed Nov 11 2026. No macro, syntax, notation, axiom, sorry.
-/
import Derived.Test.YtopgmnjijioheaaChecked
import GoSem.Claim
import GoSem.ClaimJoined
import GoSem.ClaimMapViews
import Derived.JoinedTies
import Derived.KernelRfl
namespace Go.Proofs.Ytopgmnjijioheaa
/- THE CELL 'sum', in the pinned program and in every row, IS THE sha256 OF THE DUMP (.gsa) THAT YtopgmnjijioheaaProg.lean LOADS. Nothing in Lean hashes anything: it is a label: what it is worth is what the hold of that sum in a sandbox is worth. -/
noncomputable def Try.pinned : Pinned := { name := "ytopgmnjijioheaa", sum := "d984c9e3afdd04d89e17a7ee5c96e9794736eb117c85613fdb1662dee83cb774", checked := Try.checked }
namespace Rows
def none {H : Type} : Left H := { results := [], args := [] }

/-- 'transhumancelaw12.PenTells': WHATEVER THE INPUT: true; the input reads as it did. -/
def penTellsSpec : ChangeSpec := { name := "penTells", fn := fun _ => fun
  | [d1, d2, d3] => { results := [.lit (.bool true)], args := [d1, d2, d3] }
  | _ => none }
def penTellsRow : OpenClaim := { program := "ytopgmnjijioheaa", sum := "d984c9e3afdd04d89e17a7ee5c96e9794736eb117c85613fdb1662dee83cb774", func := "transhumance/transhumancelaw12.PenTells", spec := "penTells", unfollowed := true, recurses := true, apart := false }
def PenTellsSaid : Prop := penTellsRow.holds Try.pinned (OpenSpec.ofChange penTellsSpec)

/-- ITS FALSE NEIGHBOUR: 'it returns false'. Refute it at one input. -/
def penTellsWrong : ChangeSpec := { name := "penTells", fn := fun _ => fun
  | [d1, d2, d3] => { results := [.lit (.bool false)], args := [d1, d2, d3] }
  | _ => none }
def PenTellsWrongFalsely : Prop := penTellsRow.holds Try.pinned (OpenSpec.ofChange penTellsWrong)

/-- 'transhumancelaw12.PenHolds': WHATEVER THE INPUT: true; the input reads as it did. -/
def penHoldsSpec : ChangeSpec := { name := "penHolds", fn := fun _ => fun
  | [d1, d2, d3] => { results := [.lit (.bool true)], args := [d1, d2, d3] }
  | _ => none }
def penHoldsRow : OpenClaim := { program := "ytopgmnjijioheaa", sum := "d984c9e3afdd04d89e17a7ee5c96e9794736eb117c85613fdb1662dee83cb774", func := "transhumance/transhumancelaw12.PenHolds", spec := "penHolds", unfollowed := true, recurses := true, apart := false }
def PenHoldsSaid : Prop := penHoldsRow.holds Try.pinned (OpenSpec.ofChange penHoldsSpec)

/-- ITS FALSE NEIGHBOUR: 'it returns false'. Refute it at one input. -/
def penHoldsWrong : ChangeSpec := { name := "penHolds", fn := fun _ => fun
  | [d1, d2, d3] => { results := [.lit (.bool false)], args := [d1, d2, d3] }
  | _ => none }
def PenHoldsWrongFalsely : Prop := penHoldsRow.holds Try.pinned (OpenSpec.ofChange penHoldsWrong)

/-- 'transhumancelaw12.PenStale': WHATEVER THE INPUT: true; the input reads as it did. -/
def penStaleSpec : ChangeSpec := { name := "penStale", fn := fun _ => fun
  | [d1, d2, d3] => { results := [.lit (.bool true)], args := [d1, d2, d3] }
  | _ => none }
def penStaleRow : OpenClaim := { program := "ytopgmnjijioheaa", sum := "d984c9e3afdd04d89e17a7ee5c96e9794736eb117c85613fdb1662dee83cb774", func := "transhumance/transhumancelaw12.PenStale", spec := "penStale", unfollowed := true, recurses := true, apart := false }
def PenStaleSaid : Prop := penStaleRow.holds Try.pinned (OpenSpec.ofChange penStaleSpec)

/-- ITS FALSE NEIGHBOUR: 'it returns false'. Refute it at one input. -/
def penStaleWrong : ChangeSpec := { name := "penStale", fn := fun _ => fun
  | [d1, d2, d3] => { results := [.lit (.bool false)], args := [d1, d2, d3] }
  | _ => none }
def PenStaleWrongFalsely : Prop := penStaleRow.holds Try.pinned (OpenSpec.ofChange penStaleWrong)

/-- 'transhumancelaw12.PenMany': WHATEVER THE INPUT: true; the input reads as it did. -/
def penManySpec : ChangeSpec := { name := "penMany", fn := fun _ => fun
  | [d1, d2] => { results := [.lit (.bool true)], args := [d1, d2] }
  | _ => none }
def penManyRow : OpenClaim := { program := "ytopgmnjijioheaa", sum := "d984c9e3afdd04d89e17a7ee5c96e9794736eb117c85613fdb1662dee83cb774", func := "transhumance/transhumancelaw12.PenMany", spec := "penMany", unfollowed := true, recurses := true, apart := false }
def PenManySaid : Prop := penManyRow.holds Try.pinned (OpenSpec.ofChange penManySpec)

/-- ITS FALSE NEIGHBOUR: 'it returns false'. Refute it at one input. -/
def penManyWrong : ChangeSpec := { name := "penMany", fn := fun _ => fun
  | [d1, d2] => { results := [.lit (.bool false)], args := [d1, d2] }
  | _ => none }
def PenManyWrongFalsely : Prop := penManyRow.holds Try.pinned (OpenSpec.ofChange penManyWrong)

/-- 'transhumancelaw12.PenGens': WHATEVER THE INPUT: true; the input reads as it did. -/
def penGensSpec : ChangeSpec := { name := "penGens", fn := fun _ => fun
  | [d1, d2] => { results := [.lit (.bool true)], args := [d1, d2] }
  | _ => none }
def penGensRow : OpenClaim := { program := "ytopgmnjijioheaa", sum := "d984c9e3afdd04d89e17a7ee5c96e9794736eb117c85613fdb1662dee83cb774", func := "transhumance/transhumancelaw12.PenGens", spec := "penGens", unfollowed := true, recurses := true, apart := false }
def PenGensSaid : Prop := penGensRow.holds Try.pinned (OpenSpec.ofChange penGensSpec)

/-- ITS FALSE NEIGHBOUR: 'it returns false'. Refute it at one input. -/
def penGensWrong : ChangeSpec := { name := "penGens", fn := fun _ => fun
  | [d1, d2] => { results := [.lit (.bool false)], args := [d1, d2] }
  | _ => none }
def PenGensWrongFalsely : Prop := penGensRow.holds Try.pinned (OpenSpec.ofChange penGensWrong)

/-- 'transhumancelaw12.PenOrder': WHATEVER THE INPUT: true; the input reads as it did. -/
def penOrderSpec : ChangeSpec := { name := "penOrder", fn := fun _ => fun
  | [d1, d2, d3] => { results := [.lit (.bool true)], args := [d1, d2, d3] }
  | _ => none }
def penOrderRow : OpenClaim := { program := "ytopgmnjijioheaa", sum := "d984c9e3afdd04d89e17a7ee5c96e9794736eb117c85613fdb1662dee83cb774", func := "transhumance/transhumancelaw12.PenOrder", spec := "penOrder", unfollowed := true, recurses := true, apart := false }
def PenOrderSaid : Prop := penOrderRow.holds Try.pinned (OpenSpec.ofChange penOrderSpec)

/-- ITS FALSE NEIGHBOUR: 'it returns false'. Refute it at one input. -/
def penOrderWrong : ChangeSpec := { name := "penOrder", fn := fun _ => fun
  | [d1, d2, d3] => { results := [.lit (.bool false)], args := [d1, d2, d3] }
  | _ => none }
def PenOrderWrongFalsely : Prop := penOrderRow.holds Try.pinned (OpenSpec.ofChange penOrderWrong)

/- THE SECOND FORM. 'bulk': how many values and letters a reading holds, each counted each time it is reached (what is shared counts as often as it is met; a slice's spare places count too). A statement '..UptoSaid' is the law's where the arguments, and the package variables that the reading takes, are together of bulk at most 1048576: NARROWER than '..Said'. Prove '..Said' where nothing that the law and all that it calls make is longer than what came in: it says more and counts as full. Else prove '..UptoSaid'. A law counts once. -/
mutual
def uptoBulk {H : Type} : DataW H → Nat
  | .lit (.string bytes) => bytes.length + 1
  | .lit _ => 1
  | .nil => 1
  | .ptr d => uptoBulk d + 1
  | .slice elems spare => uptoBulkAll elems + uptoBulkAll spare + 1
  | .agg parts => uptoBulkAll parts + 1
  | .iface _ d => uptoBulk d + 1
  | .map entries => uptoBulkEntries entries + 1
  | .held _ => 1
def uptoBulkAll {H : Type} : List (DataW H) → Nat
  | [] => 0
  | d :: r => uptoBulk d + uptoBulkAll r
def uptoBulkEntries {H : Type} : List (Lit × DataW H) → Nat
  | [] => 0
  | x :: r => uptoBulkEntry x + uptoBulkEntries r
def uptoBulkEntry {H : Type} : Lit × DataW H → Nat
  | (.string bytes, d) => bytes.length + uptoBulk d + 1
  | (_, d) => uptoBulk d + 1
 end
def uptoSmall : (H : Type) → List (DataW H) → Bool := fun _ ds => decide (uptoBulkAll ds ≤ 1048576)
def OpenSpec.upto (s : _root_.Go.ChangeSpec) : _root_.Go.OpenSpec := { _root_.Go.OpenSpec.ofChange s with cond := some uptoSmall }

/-- 'transhumancelaw12.PenTells', WHERE WHAT IT READS IS OF BULK AT MOST 1048576: true; the input reads as it did. -/
def penTellsUptoRow : OpenClaim := { program := "ytopgmnjijioheaa", sum := "d984c9e3afdd04d89e17a7ee5c96e9794736eb117c85613fdb1662dee83cb774", func := "transhumance/transhumancelaw12.PenTells", spec := "penTells", unfollowed := true, recurses := true, apart := false, narrowed := true }
def PenTellsUptoSaid : Prop := penTellsUptoRow.holds Try.pinned (OpenSpec.upto penTellsSpec)

/-- 'transhumancelaw12.PenHolds', WHERE WHAT IT READS IS OF BULK AT MOST 1048576: true; the input reads as it did. -/
def penHoldsUptoRow : OpenClaim := { program := "ytopgmnjijioheaa", sum := "d984c9e3afdd04d89e17a7ee5c96e9794736eb117c85613fdb1662dee83cb774", func := "transhumance/transhumancelaw12.PenHolds", spec := "penHolds", unfollowed := true, recurses := true, apart := false, narrowed := true }
def PenHoldsUptoSaid : Prop := penHoldsUptoRow.holds Try.pinned (OpenSpec.upto penHoldsSpec)

/-- 'transhumancelaw12.PenStale', WHERE WHAT IT READS IS OF BULK AT MOST 1048576: true; the input reads as it did. -/
def penStaleUptoRow : OpenClaim := { program := "ytopgmnjijioheaa", sum := "d984c9e3afdd04d89e17a7ee5c96e9794736eb117c85613fdb1662dee83cb774", func := "transhumance/transhumancelaw12.PenStale", spec := "penStale", unfollowed := true, recurses := true, apart := false, narrowed := true }
def PenStaleUptoSaid : Prop := penStaleUptoRow.holds Try.pinned (OpenSpec.upto penStaleSpec)

/-- 'transhumancelaw12.PenMany', WHERE WHAT IT READS IS OF BULK AT MOST 1048576: true; the input reads as it did. -/
def penManyUptoRow : OpenClaim := { program := "ytopgmnjijioheaa", sum := "d984c9e3afdd04d89e17a7ee5c96e9794736eb117c85613fdb1662dee83cb774", func := "transhumance/transhumancelaw12.PenMany", spec := "penMany", unfollowed := true, recurses := true, apart := false, narrowed := true }
def PenManyUptoSaid : Prop := penManyUptoRow.holds Try.pinned (OpenSpec.upto penManySpec)

/-- 'transhumancelaw12.PenGens', WHERE WHAT IT READS IS OF BULK AT MOST 1048576: true; the input reads as it did. -/
def penGensUptoRow : OpenClaim := { program := "ytopgmnjijioheaa", sum := "d984c9e3afdd04d89e17a7ee5c96e9794736eb117c85613fdb1662dee83cb774", func := "transhumance/transhumancelaw12.PenGens", spec := "penGens", unfollowed := true, recurses := true, apart := false, narrowed := true }
def PenGensUptoSaid : Prop := penGensUptoRow.holds Try.pinned (OpenSpec.upto penGensSpec)

/-- 'transhumancelaw12.PenOrder', WHERE WHAT IT READS IS OF BULK AT MOST 1048576: true; the input reads as it did. -/
def penOrderUptoRow : OpenClaim := { program := "ytopgmnjijioheaa", sum := "d984c9e3afdd04d89e17a7ee5c96e9794736eb117c85613fdb1662dee83cb774", func := "transhumance/transhumancelaw12.PenOrder", spec := "penOrder", unfollowed := true, recurses := true, apart := false, narrowed := true }
def PenOrderUptoSaid : Prop := penOrderUptoRow.holds Try.pinned (OpenSpec.upto penOrderSpec)

end Rows
end Go.Proofs.Ytopgmnjijioheaa
