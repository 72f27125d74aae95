/- The library's sort of an iterator's numbers, as the machine knows it. No conditions. -/
import Derived.Test.YtifmjomfoilnnaaGreatVmDef
set_option linter.unusedVariables false
namespace Go.Proofs.YtifmjomfoilnnaaGreatW.Vm
open Go Go.Proofs
def insZ (x : Int) : List Int → List Int
  | [] => [x]
  | y :: l => if x ≤ y then x :: y :: l else y :: insZ x l
def isortZ : List Int → List Int
  | [] => []
  | x :: l => insZ x (isortZ l)
def intsOfD : List D → Option (List Int)
  | [] => some []
  | .int .i64 n :: l => (intsOfD l).map (n :: ·)
  | _ :: _ => none
/-- slices.Values; g: its closure -/
def valuesG (g : Nat) : List D → Option D
  | [.snil] => some (.clo (.func g) [] [.fptr 1 [.snil] 0 0])
  | [.sl z xs t] => some (.clo (.func g) [] [.fptr 1 [.sl z xs t] 0 0])
  | _ => none
/-- slices.Sorted of that -/
def sortedG (g : Nat) : List D → Option D
  | [.clo (.func f) [] [.fptr 1 [.snil] 0 0]] => if f = g then some .snil else none
  | [.clo (.func f) [] [.fptr 1 [.sl 1 xs t] 0 0]] => if f = g ∧ xs.length ≤ 2 ^ 40 then (intsOfD xs).map fun l => if l = [] then .snil else .sl 1 ((isortZ l).map fun n => .int .i64 n) false else none
  | _ => none
end Go.Proofs.YtifmjomfoilnnaaGreatW.Vm
