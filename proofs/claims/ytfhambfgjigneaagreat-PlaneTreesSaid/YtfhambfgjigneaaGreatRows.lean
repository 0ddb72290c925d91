/-
  No cell of these rows narrows 'for every input' (looked for: loops, veiled, ifaces, maps, wideKeys, modest, calm, conditions, laid).
  DERIVED. THE GIVEN ROWS OF THIS SEAT. 4 by the template 'for every input the law returns true; each argument reads behind the call as it read before'; 0 by the template 'total and deterministic' (their statements: YtfhambfgjigneaaGreatTotals.lean).
  GIVEN WITH THE SEED: the statements are not yours to turn. If you find one false, say at which input.
  Laid BY PROGRAM, IN A SANDBOX (cutbox-rows.mjs): the forced cells as the released guide's own fill.sh prints them over the translation 0d8c66bc1c4916b2… (all of the seat's roots in one cut). By AI agents, Wed Nov 11 2026. No macro, syntax, notation, axiom, sorry.
-/
import Derived.Test.YtfhambfgjigneaaGreatChecked
import GoSem.Claim
import GoSem.ClaimJoined
import GoSem.ClaimMapViews
import Derived.JoinedTies
import Derived.KernelRfl
namespace Go.Proofs.YtfhambfgjigneaaGreat
/- THE CELL 'sum', in the pinned program and in every row, IS THE sha256 OF THE DUMP (.gsa) THAT YtfhambfgjigneaaGreatProg.lean LOADS. Nothing in Lean hashes anything: it is a label: what it is worth is what the hold of that sum in a sandbox is worth. -/
noncomputable def Tryz.pinned : Pinned := { name := "ytfhambfgjigneaagreat", sum := "0d8c66bc1c4916b229dd111401025ca8ad0d0d69d3af4efc5f6f4fbd50e9adb3", checked := Tryz.checked }
namespace Rows
def none {H : Type} : Left H := { results := [], args := [] }

/-- 'unbentlaw02.PlaneTrees': WHATEVER THE INPUT: true; the input reads as it did. -/
def planeTreesSpec : ChangeSpec := { name := "planeTrees", fn := fun _ => fun
  | [d1, d2, d3] => { results := [.lit (.bool true)], args := [d1, d2, d3] }
  | _ => none }
def planeTreesRow : OpenClaim := { program := "ytfhambfgjigneaagreat", sum := "0d8c66bc1c4916b229dd111401025ca8ad0d0d69d3af4efc5f6f4fbd50e9adb3", func := "unbent/unbentlaw02.PlaneTrees", spec := "planeTrees", recurses := true, apart := false }
def PlaneTreesSaid : Prop := planeTreesRow.holds Tryz.pinned (OpenSpec.ofChange planeTreesSpec)

/-- ITS FALSE NEIGHBOUR: 'it returns false'. Refute it at one input. -/
def planeTreesWrong : ChangeSpec := { name := "planeTrees", fn := fun _ => fun
  | [d1, d2, d3] => { results := [.lit (.bool false)], args := [d1, d2, d3] }
  | _ => none }
def PlaneTreesWrongFalsely : Prop := planeTreesRow.holds Tryz.pinned (OpenSpec.ofChange planeTreesWrong)

/-- 'unbentlaw02.PlaneSolved': WHATEVER THE INPUT: true; the input reads as it did. -/
def planeSolvedSpec : ChangeSpec := { name := "planeSolved", fn := fun _ => fun
  | [d] => { results := [.lit (.bool true)], args := [d] }
  | _ => none }
def planeSolvedRow : OpenClaim := { program := "ytfhambfgjigneaagreat", sum := "0d8c66bc1c4916b229dd111401025ca8ad0d0d69d3af4efc5f6f4fbd50e9adb3", func := "unbent/unbentlaw02.PlaneSolved", spec := "planeSolved", unfollowed := true, recurses := true, apart := false }
def PlaneSolvedSaid : Prop := planeSolvedRow.holds Tryz.pinned (OpenSpec.ofChange planeSolvedSpec)

/-- ITS FALSE NEIGHBOUR: 'it returns false'. Refute it at one input. -/
def planeSolvedWrong : ChangeSpec := { name := "planeSolved", fn := fun _ => fun
  | [d] => { results := [.lit (.bool false)], args := [d] }
  | _ => none }
def PlaneSolvedWrongFalsely : Prop := planeSolvedRow.holds Tryz.pinned (OpenSpec.ofChange planeSolvedWrong)

/-- 'unbentlaw02.PlaneWhole': WHATEVER THE INPUT: true; the input reads as it did. -/
def planeWholeSpec : ChangeSpec := { name := "planeWhole", fn := fun _ => fun
  | [d1, d2] => { results := [.lit (.bool true)], args := [d1, d2] }
  | _ => none }
def planeWholeRow : OpenClaim := { program := "ytfhambfgjigneaagreat", sum := "0d8c66bc1c4916b229dd111401025ca8ad0d0d69d3af4efc5f6f4fbd50e9adb3", func := "unbent/unbentlaw02.PlaneWhole", spec := "planeWhole", unfollowed := true, recurses := true, apart := false }
def PlaneWholeSaid : Prop := planeWholeRow.holds Tryz.pinned (OpenSpec.ofChange planeWholeSpec)

/-- ITS FALSE NEIGHBOUR: 'it returns false'. Refute it at one input. -/
def planeWholeWrong : ChangeSpec := { name := "planeWhole", fn := fun _ => fun
  | [d1, d2] => { results := [.lit (.bool false)], args := [d1, d2] }
  | _ => none }
def PlaneWholeWrongFalsely : Prop := planeWholeRow.holds Tryz.pinned (OpenSpec.ofChange planeWholeWrong)

/-- 'unbentlaw02.PlaneKeeps': WHATEVER THE INPUT: true; the input reads as it did. -/
def planeKeepsSpec : ChangeSpec := { name := "planeKeeps", fn := fun _ => fun
  | [d1, d2, d3] => { results := [.lit (.bool true)], args := [d1, d2, d3] }
  | _ => none }
def planeKeepsRow : OpenClaim := { program := "ytfhambfgjigneaagreat", sum := "0d8c66bc1c4916b229dd111401025ca8ad0d0d69d3af4efc5f6f4fbd50e9adb3", func := "unbent/unbentlaw02.PlaneKeeps", spec := "planeKeeps", unfollowed := true, recurses := true, apart := false }
def PlaneKeepsSaid : Prop := planeKeepsRow.holds Tryz.pinned (OpenSpec.ofChange planeKeepsSpec)

/-- ITS FALSE NEIGHBOUR: 'it returns false'. Refute it at one input. -/
def planeKeepsWrong : ChangeSpec := { name := "planeKeeps", fn := fun _ => fun
  | [d1, d2, d3] => { results := [.lit (.bool false)], args := [d1, d2, d3] }
  | _ => none }
def PlaneKeepsWrongFalsely : Prop := planeKeepsRow.holds Tryz.pinned (OpenSpec.ofChange planeKeepsWrong)

/- THE SECOND FORM. 'bulk': how many values and letters a reading holds, each counted each time it is reached (what is shared counts as often as it is met; a slice's spare places count too). A statement '..UptoSaid' is the law's where the arguments, and the package variables that the reading takes, are together of bulk at most 1048576: NARROWER than '..Said'. Prove '..Said' where nothing that the law and all that it calls make is longer than what came in: it says more and counts as full. Else prove '..UptoSaid'. A law counts once. -/
mutual
def uptoBulk {H : Type} : DataW H → Nat
  | .lit (.string bytes) => bytes.length + 1
  | .lit _ => 1
  | .nil => 1
  | .ptr d => uptoBulk d + 1
  | .slice elems spare => uptoBulkAll elems + uptoBulkAll spare + 1
  | .agg parts => uptoBulkAll parts + 1
  | .iface _ d => uptoBulk d + 1
  | .map entries => uptoBulkEntries entries + 1
  | .held _ => 1
def uptoBulkAll {H : Type} : List (DataW H) → Nat
  | [] => 0
  | d :: r => uptoBulk d + uptoBulkAll r
def uptoBulkEntries {H : Type} : List (Lit × DataW H) → Nat
  | [] => 0
  | x :: r => uptoBulkEntry x + uptoBulkEntries r
def uptoBulkEntry {H : Type} : Lit × DataW H → Nat
  | (.string bytes, d) => bytes.length + uptoBulk d + 1
  | (_, d) => uptoBulk d + 1
 end
def uptoSmall : (H : Type) → List (DataW H) → Bool := fun _ ds => decide (uptoBulkAll ds ≤ 1048576)
def OpenSpec.upto (s : _root_.Go.ChangeSpec) : _root_.Go.OpenSpec := { _root_.Go.OpenSpec.ofChange s with cond := some uptoSmall }

/-- 'unbentlaw02.PlaneTrees', WHERE WHAT IT READS IS OF BULK AT MOST 1048576: true; the input reads as it did. -/
def planeTreesUptoRow : OpenClaim := { program := "ytfhambfgjigneaagreat", sum := "0d8c66bc1c4916b229dd111401025ca8ad0d0d69d3af4efc5f6f4fbd50e9adb3", func := "unbent/unbentlaw02.PlaneTrees", spec := "planeTrees", recurses := true, apart := false, narrowed := true }
def PlaneTreesUptoSaid : Prop := planeTreesUptoRow.holds Tryz.pinned (OpenSpec.upto planeTreesSpec)

/-- 'unbentlaw02.PlaneSolved', WHERE WHAT IT READS IS OF BULK AT MOST 1048576: true; the input reads as it did. -/
def planeSolvedUptoRow : OpenClaim := { program := "ytfhambfgjigneaagreat", sum := "0d8c66bc1c4916b229dd111401025ca8ad0d0d69d3af4efc5f6f4fbd50e9adb3", func := "unbent/unbentlaw02.PlaneSolved", spec := "planeSolved", unfollowed := true, recurses := true, apart := false, narrowed := true }
def PlaneSolvedUptoSaid : Prop := planeSolvedUptoRow.holds Tryz.pinned (OpenSpec.upto planeSolvedSpec)

/-- 'unbentlaw02.PlaneWhole', WHERE WHAT IT READS IS OF BULK AT MOST 1048576: true; the input reads as it did. -/
def planeWholeUptoRow : OpenClaim := { program := "ytfhambfgjigneaagreat", sum := "0d8c66bc1c4916b229dd111401025ca8ad0d0d69d3af4efc5f6f4fbd50e9adb3", func := "unbent/unbentlaw02.PlaneWhole", spec := "planeWhole", unfollowed := true, recurses := true, apart := false, narrowed := true }
def PlaneWholeUptoSaid : Prop := planeWholeUptoRow.holds Tryz.pinned (OpenSpec.upto planeWholeSpec)

/-- 'unbentlaw02.PlaneKeeps', WHERE WHAT IT READS IS OF BULK AT MOST 1048576: true; the input reads as it did. -/
def planeKeepsUptoRow : OpenClaim := { program := "ytfhambfgjigneaagreat", sum := "0d8c66bc1c4916b229dd111401025ca8ad0d0d69d3af4efc5f6f4fbd50e9adb3", func := "unbent/unbentlaw02.PlaneKeeps", spec := "planeKeeps", unfollowed := true, recurses := true, apart := false, narrowed := true }
def PlaneKeepsUptoSaid : Prop := planeKeepsUptoRow.holds Tryz.pinned (OpenSpec.upto planeKeepsSpec)

end Rows
end Go.Proofs.YtfhambfgjigneaaGreat
